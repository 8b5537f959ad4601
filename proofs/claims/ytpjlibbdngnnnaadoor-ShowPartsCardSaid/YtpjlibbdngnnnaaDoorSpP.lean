/-
  The first fault in plain words (layer 10), as the program asks for it: one question behind the other. No conditions.
-/
import Derived.Test.YtpjlibbdngnnnaaDoorSpB
namespace Go.Proofs.YtpjlibbdngnnnaaDoor
set_option linter.unusedSimpArgs false
set_option linter.unusedVariables false

def noF : FS := (0, [])
def thenF (a b : FS) : FS := if a.1 = 0 then b else a
/-- The first of several. -/
def firstF : List FS → FS
  | [] => noF
  | a :: l => thenF a (firstF l)
theorem thenF_no (b : FS) : thenF noF b = b := if_pos rfl
theorem flt_no (e : Nat) (n : List UInt8) : fltS noF e n = (e, n) := if_pos rfl
theorem flt_stay {s : FS} (h : s.1 ≠ 0) (e : Nat) (n : List UInt8) : fltS s e n = s := if_neg h
theorem twG_stay : ∀ (l p : List (List UInt8)) (s : FS), s.1 ≠ 0 → twG p l s = s
  | [], _, _, _ => rfl
  | x :: l, p, s, h => by
    unfold twG
    have e : (if x ∈ p then fltS s 5 x else s) = s := by
      split
      · exact flt_stay h _ _
      · rfl
    rw [e]
    exact twG_stay l _ s h
theorem twF_stay {l : List (List UInt8)} {s : FS} (h : s.1 ≠ 0) : twF l s = s := twG_stay l [] s h
theorem twG_app : ∀ (a b p : List (List UInt8)) (s : FS), twG p (a ++ b) s = twG (p ++ a) b (twG p a s)
  | [], b, p, s => by simp [twG]
  | x :: a, b, p, s => by
    show twG (p ++ [x]) (a ++ b) _ = _
    rw [twG_app a b]
    simp only [List.append_assoc, List.singleton_append]
    rfl
/-- The first name that is an earlier one's. -/
theorem twice_hit {l : List (List UInt8)} {k : Nat} (hk : k < l.length) (h0 : twF (l.take k) noF = noF) (hx : l[k] ∈ l.take k) : twF l noF = (5, l[k]) := by
  have h1 := twF_take hk noF
  rw [if_pos hx, h0, flt_no] at h1
  have e : l = l.take (k + 1) ++ l.drop (k + 1) := (List.take_append_drop _ _).symm
  have h2 : twF l noF = twG ([] ++ l.take (k + 1)) (l.drop (k + 1)) (twF (l.take (k + 1)) noF) := by
    conv => lhs; rw [e]
    exact twG_app _ _ _ _
  rw [h2, h1]
  exact twG_stay _ _ _ (show (5 : Nat) ≠ 0 by decide)
theorem twice_go {l : List (List UInt8)} {k : Nat} (hk : k < l.length) (h0 : twF (l.take k) noF = noF) (hx : l[k] ∉ l.take k) : twF (l.take (k + 1)) noF = noF := by
  rw [twF_take hk noF, if_neg hx, h0]
/-- What a fault of its own leaves as it is. -/
def Stays (g : FS → FS) : Prop := (∀ s, s.1 ≠ 0 → g s = s) ∧ ∀ s, (g s).1 = 0 → g s = s
theorem Stays.comp {g f : FS → FS} (hg : Stays g) (hf : Stays f) : Stays (fun s => g (f s)) :=
  ⟨fun s h => by show g (f s) = s; rw [hf.1 s h]; exact hg.1 s h, fun s h => by
    have h1 := hg.2 _ h
    show g (f s) = s
    rw [h1]
    exact hf.2 s (by rw [← h1]; exact h)⟩
theorem Stays.id : Stays (fun s => s) := ⟨fun _ _ => rfl, fun _ _ => rfl⟩
theorem Stays.at {g : FS → FS} (hg : Stays g) (s : FS) (hs : s.1 = 0 → s = noF) : g s = thenF s (g noF) := by
  unfold thenF
  by_cases h : s.1 = 0
  · rw [if_pos h, hs h]
  · rw [if_neg h, hg.1 s h]
theorem Stays.nf {g : FS → FS} (hg : Stays g) : (g noF).1 = 0 → g noF = noF := fun h => hg.2 _ h
theorem flt_stays {e : Nat} (he : e ≠ 0) (n : List UInt8) : Stays (fun s => fltS s e n) :=
  ⟨fun s h => flt_stay h _ _, fun s h => absurd h (flt_bad he)⟩
theorem if_stays {c : Prop} [Decidable c] {f g : FS → FS} (hf : Stays f) (hg : Stays g) : Stays (fun s => if c then f s else g s) := by
  by_cases h : c
  · simp only [if_pos h]; exact hf
  · simp only [if_neg h]; exact hg
theorem twG_stays : ∀ (l p : List (List UInt8)), Stays (twG p l)
  | [], _ => Stays.id
  | x :: l, p => by
    have h : Stays (fun s => twG (p ++ [x]) l (if x ∈ p then fltS s 5 x else s)) := Stays.comp (g := twG (p ++ [x]) l) (twG_stays l _) (if_stays (c := x ∈ p) (flt_stays (e := 5) (by decide) x) Stays.id)
    exact h
theorem twF_stays (l : List (List UInt8)) : Stays (twF l) := twG_stays l []
section
variable (cons : List (List UInt8))
theorem conS_stays (n : List UInt8) : Stays (conS cons n) := if_stays (c := n ∈ cons) Stays.id (flt_stays (by decide) n)
mutual
theorem scE_stays : ∀ (e : TE) (i : List (List UInt8)), Stays (scE cons e i)
  | .mk k n fl bi ps ks bs al, i => by
    have e : scE cons (.mk k n fl bi ps ks bs al) i = fun s => if k = 1 then scA cons al i (scK cons ks i (if n ∈ i then s else fltS s 4 n))
      else if k = 2 then scA cons al i (scK cons ks i (conS cons n s))
      else if k = 6 then scA cons al (i ++ nmB bs) (scK cons ks (i ++ nmB bs) (scB cons bs (i ++ nmB bs) (twF (nmB bs) s)))
      else if k = 8 then scA cons al (i ++ ps) (scK cons ks (i ++ ps) (twF ps s))
      else scA cons al i (scK cons ks i s) := by
      funext s
      rw [scE]
    rw [e]
    exact if_stays (Stays.comp (g := scA cons al i) (scA_stays al i) (Stays.comp (g := scK cons ks i) (scK_stays ks i) (if_stays Stays.id (flt_stays (e := 4) (by decide) n))))
      (if_stays (Stays.comp (g := scA cons al i) (scA_stays al i) (Stays.comp (g := scK cons ks i) (scK_stays ks i) (conS_stays cons n)))
        (if_stays (Stays.comp (g := scA cons al (i ++ nmB bs)) (scA_stays al _) (Stays.comp (g := scK cons ks (i ++ nmB bs)) (scK_stays ks _) (Stays.comp (g := scB cons bs (i ++ nmB bs)) (scB_stays bs _) (twF_stays _))))
          (if_stays (Stays.comp (g := scA cons al (i ++ ps)) (scA_stays al _) (Stays.comp (g := scK cons ks (i ++ ps)) (scK_stays ks _) (twF_stays _))) (Stays.comp (g := scA cons al i) (scA_stays al i) (scK_stays ks i)))))
theorem scK_stays : ∀ (l : List TE) (i : List (List UInt8)), Stays (scK cons l i)
  | [], i => by
    have e : scK cons [] i = fun s => s := by funext s; rw [scK]
    rw [e]; exact Stays.id
  | x :: l, i => by
    have e : scK cons (x :: l) i = fun s => scK cons l i (scE cons x i s) := by funext s; rw [scK]
    rw [e]; exact Stays.comp (scK_stays l i) (scE_stays x i)
theorem scB_stays : ∀ (l : List TB) (i : List (List UInt8)), Stays (scB cons l i)
  | [], i => by
    have e : scB cons [] i = fun s => s := by funext s; rw [scB]
    rw [e]; exact Stays.id
  | .mk n p x :: l, i => by
    have e : scB cons (.mk n p x :: l) i = fun s => scB cons l i (scE cons x (i ++ p) (twF p s)) := by funext s; rw [scB]
    rw [e]; exact Stays.comp (scB_stays l i) (Stays.comp (scE_stays x (i ++ p)) (twF_stays p))
theorem scA_stays : ∀ (l : List TA) (i : List (List UInt8)), Stays (scA cons l i)
  | [], i => by
    have e : scA cons [] i = fun s => s := by funext s; rw [scA]
    rw [e]; exact Stays.id
  | .mk k n fl bi ns x :: l, i => by
    have e : scA cons (.mk k n fl bi ns x :: l) i = fun s => scA cons l i (if k = 0 then scE cons x (i ++ ns) (twF ns (conS cons n s)) else if k = 2 then scE cons x (i ++ [n]) s else scE cons x i s) := by funext s; rw [scA]
    rw [e]; exact Stays.comp (scA_stays l i) (if_stays (Stays.comp (scE_stays x (i ++ ns)) (Stays.comp (twF_stays ns) (conS_stays cons n))) (if_stays (scE_stays x (i ++ [n])) (scE_stays x i)))
end
/-- What a body asks. -/
def bodyF (p : List (List UInt8)) (e : TE) (i : List (List UInt8)) : FS := firstF [twF p noF, scE cons e (i ++ p) noF]
theorem thenF_r (a : FS) (h : a.1 = 0 → a = noF) : thenF a noF = a := by
  unfold thenF
  split
  · rename_i q; exact (h q).symm
  · rfl
theorem bodyF_eq (p : List (List UInt8)) (e : TE) (i : List (List UInt8)) : bodyF cons p e i = scE cons e (i ++ p) (twF p noF) := by
  rw [Stays.at (scE_stays cons e (i ++ p)) _ (twF_stays p).nf]
  show thenF _ (thenF _ noF) = _
  rw [thenF_r _ (scE_stays cons e (i ++ p)).nf]
theorem scK_first : ∀ (l : List TE) (i : List (List UInt8)), scK cons l i noF = firstF (l.map (fun e => scE cons e i noF))
  | [], _ => rfl
  | e :: l, i => by
    show scK cons l i (scE cons e i noF) = thenF _ (firstF (l.map _))
    rw [Stays.at (scK_stays cons l i) _ (scE_stays cons e i).nf, scK_first l i]
theorem scB_first : ∀ (l : List TB) (i : List (List UInt8)), scB cons l i noF = firstF (l.map (fun b => bodyF cons b.params b.body i))
  | [], _ => rfl
  | .mk n p e :: l, i => by
    show scB cons l i (scE cons e (i ++ p) (twF p noF)) = thenF (bodyF cons p e i) (firstF (l.map _))
    rw [bodyF_eq, Stays.at (scB_stays cons l i) _ (Stays.comp (scE_stays cons e (i ++ p)) (twF_stays p)).nf, scB_first l i]
/-- What an alternative asks. -/
def alt1F (a : TA) (i : List (List UInt8)) : FS := if a.kind = 0 then firstF [conS cons a.name noF, bodyF cons a.names a.body i] else if a.kind = 2 then bodyF cons [a.name] a.body i else scE cons a.body i noF
theorem scA1_stays (a : TA) (i : List (List UInt8)) : Stays (scA1 cons a i) := by
  unfold scA1
  exact if_stays (Stays.comp (scE_stays cons a.body _) (Stays.comp (twF_stays a.names) (conS_stays cons a.name))) (if_stays (scE_stays cons a.body _) (scE_stays cons a.body i))
theorem tw_one (n : List UInt8) (s : FS) : twF [n] s = s := by
  unfold twF twG twG
  simp
theorem alt1F_eq (a : TA) (i : List (List UInt8)) : alt1F cons a i = scA1 cons a i noF := by
  unfold alt1F scA1
  by_cases h0 : a.kind = 0
  · rw [if_pos h0, if_pos h0, Stays.at (Stays.comp (scE_stays cons a.body (i ++ a.names)) (twF_stays a.names)) _ (conS_stays cons a.name).nf]
    show thenF _ (thenF _ noF) = _
    rw [bodyF_eq, thenF_r _ (Stays.comp (scE_stays cons a.body (i ++ a.names)) (twF_stays a.names)).nf]
  · rw [if_neg h0, if_neg h0]
    by_cases h2 : a.kind = 2
    · rw [if_pos h2, if_pos h2, bodyF_eq, tw_one]
    · rw [if_neg h2, if_neg h2]
theorem scA_first : ∀ (l : List TA) (i : List (List UInt8)), scA cons l i noF = firstF (l.map (fun a => alt1F cons a i))
  | [], _ => rfl
  | .mk k n f b ns e :: l, i => by
    have h := scA_take cons (al := .mk k n f b ns e :: l) (j := 0) (by simp) i noF
    show scA cons l i (scA cons [.mk k n f b ns e] i noF) = thenF (alt1F cons _ i) (firstF (l.map _))
    have e1 : scA cons [.mk k n f b ns e] i noF = scA1 cons (.mk k n f b ns e) i noF := rfl
    rw [e1, alt1F_eq, Stays.at (scA_stays cons l i) _ (scA1_stays cons _ i).nf, scA_first l i]
/-- An expression, kind by kind. -/
theorem scE_var {n : List UInt8} {fl : Bool} {bi : Nat} {ps : List (List UInt8)} {bs : List TB} (i : List (List UInt8)) : scE cons (.mk 1 n fl bi ps [] bs []) i noF = if n ∈ i then noF else (4, n) := by
  unfold scE
  rw [if_pos rfl]
  show (if n ∈ i then noF else fltS noF 4 n) = _
  rw [flt_no]
theorem scE_con {n : List UInt8} {fl : Bool} {bi : Nat} {ps : List (List UInt8)} {ks : List TE} {bs : List TB} (i : List (List UInt8)) : scE cons (.mk 2 n fl bi ps ks bs []) i noF = firstF [conS cons n noF, scK cons ks i noF] := by
  unfold scE
  rw [if_neg (by decide), if_pos rfl]
  show scK cons ks i (conS cons n noF) = thenF _ (thenF _ noF)
  rw [Stays.at (scK_stays cons ks i) _ (conS_stays cons n).nf, thenF_r _ (scK_stays cons ks i).nf]
theorem scE_let {n : List UInt8} {fl : Bool} {bi : Nat} {ps : List (List UInt8)} {ks : List TE} {bs : List TB} (i : List (List UInt8)) : scE cons (.mk 6 n fl bi ps ks bs []) i noF = firstF [twF (nmB bs) noF, scB cons bs (i ++ nmB bs) noF, scK cons ks (i ++ nmB bs) noF] := by
  unfold scE
  rw [if_neg (by decide), if_neg (by decide), if_pos rfl]
  show scK cons ks (i ++ nmB bs) (scB cons bs (i ++ nmB bs) (twF (nmB bs) noF)) = thenF _ (thenF _ (thenF _ noF))
  rw [Stays.at (Stays.comp (scK_stays cons ks (i ++ nmB bs)) (scB_stays cons bs (i ++ nmB bs))) _ (twF_stays (nmB bs)).nf,
    Stays.at (scK_stays cons ks (i ++ nmB bs)) _ (scB_stays cons bs (i ++ nmB bs)).nf, thenF_r _ (scK_stays cons ks (i ++ nmB bs)).nf]
theorem scE_case {n : List UInt8} {fl : Bool} {bi : Nat} {ps : List (List UInt8)} {ks : List TE} {bs : List TB} {al : List TA} (i : List (List UInt8)) : scE cons (.mk 7 n fl bi ps ks bs al) i noF = firstF [scK cons ks i noF, scA cons al i noF] := by
  unfold scE
  rw [if_neg (by decide), if_neg (by decide), if_neg (by decide), if_neg (by decide)]
  show scA cons al i (scK cons ks i noF) = thenF _ (thenF _ noF)
  rw [Stays.at (scA_stays cons al i) _ (scK_stays cons ks i).nf, thenF_r _ (scA_stays cons al i).nf]
theorem scE_lam {n : List UInt8} {fl : Bool} {bi : Nat} {ps : List (List UInt8)} {ks : List TE} {bs : List TB} (i : List (List UInt8)) : scE cons (.mk 8 n fl bi ps ks bs []) i noF = firstF [twF ps noF, scK cons ks (i ++ ps) noF] := by
  unfold scE
  rw [if_neg (by decide), if_neg (by decide), if_neg (by decide), if_pos rfl]
  show scK cons ks (i ++ ps) (twF ps noF) = thenF _ (thenF _ noF)
  rw [Stays.at (scK_stays cons ks (i ++ ps)) _ (twF_stays ps).nf, thenF_r _ (scK_stays cons ks (i ++ ps)).nf]
theorem scE_kids {k : Nat} {n : List UInt8} {fl : Bool} {bi : Nat} {ps : List (List UInt8)} {ks : List TE} {bs : List TB} (h1 : k ≠ 1) (h2 : k ≠ 2) (h6 : k ≠ 6) (h8 : k ≠ 8) (i : List (List UInt8)) : scE cons (.mk k n fl bi ps ks bs []) i noF = scK cons ks i noF := by
  unfold scE
  rw [if_neg h1, if_neg h2, if_neg h6, if_neg h8]
  rfl
end
/-- The first fault of a module, as it is asked for. -/
theorem chk_first (m : TM) : chkF m = firstF [twF (consN m) noF, twF (nmB m.binds) noF, if mainN ∈ nmB m.binds then noF else (10, mainN), scB (consN m) m.binds (nmB m.binds) noF] := by
  unfold chkF
  have hm : ∀ s : FS, (if mainN ∈ nmB m.binds then s else fltS s 10 mainN) = (if mainN ∈ nmB m.binds then s else fltS s 10 mainN) := fun _ => rfl
  have hc : Stays (fun s : FS => if mainN ∈ nmB m.binds then s else fltS s 10 mainN) := if_stays Stays.id (flt_stays (by decide) mainN)
  show scB (consN m) m.binds (nmB m.binds) ((fun s : FS => if mainN ∈ nmB m.binds then s else fltS s 10 mainN) (twF (nmB m.binds) (twF (consN m) noF))) = thenF _ (thenF _ (thenF _ (thenF _ noF)))
  rw [Stays.at (Stays.comp (scB_stays (consN m) m.binds (nmB m.binds)) (Stays.comp hc (twF_stays (nmB m.binds)))) _ (twF_stays (consN m)).nf,
    Stays.at (Stays.comp (scB_stays (consN m) m.binds (nmB m.binds)) hc) _ (twF_stays (nmB m.binds)).nf,
    Stays.at (scB_stays (consN m) m.binds (nmB m.binds)) _ hc.nf, thenF_r _ (scB_stays (consN m) m.binds (nmB m.binds)).nf]
  show thenF _ (thenF _ (thenF (if mainN ∈ nmB m.binds then noF else fltS noF 10 mainN) _)) = _
  rw [flt_no]
end Go.Proofs.YtpjlibbdngnnnaaDoor
