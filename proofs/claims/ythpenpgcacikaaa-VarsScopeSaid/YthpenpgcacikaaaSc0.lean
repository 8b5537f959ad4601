/-
  Scope in plain words (layer 10): the first fault of a module, as the document finds it; what no fault means. No conditions.
-/
import Derived.Test.YthpenpgcacikaaaVarG
namespace Go.Proofs.Ythpenpgcacikaaa
set_option linter.unusedSimpArgs false
set_option linter.unusedVariables false

/-- The first fault: its number (0: none), its name. -/
abbrev FS := Nat × List UInt8
def fltS (s : FS) (e : Nat) (n : List UInt8) : FS := if s.1 = 0 then (e, n) else s
/-- Each that is an earlier one's: p came before. -/
def twG : List (List UInt8) → List (List UInt8) → FS → FS
  | _, [], s => s
  | p, x :: l, s => twG (p ++ [x]) l (if x ∈ p then fltS s 5 x else s)
def twF (l : List (List UInt8)) (s : FS) : FS := twG [] l s
theorem twG_snoc : ∀ (l p : List (List UInt8)) (x : List UInt8) (s : FS), twG p (l ++ [x]) s = if x ∈ p ++ l then fltS (twG p l s) 5 x else twG p l s
  | [], p, x, s => by simp [twG]
  | y :: l, p, x, s => by
    show twG (p ++ [y]) (l ++ [x]) _ = _
    rw [twG_snoc l]
    simp only [List.append_assoc, List.singleton_append]
    rfl
theorem twF_take {l : List (List UInt8)} {k : Nat} (h : k < l.length) (s : FS) : twF (l.take (k + 1)) s = if l[k] ∈ l.take k then fltS (twF (l.take k) s) 5 l[k] else twF (l.take k) s := by
  unfold twF
  rw [List.take_succ_eq_append_getElem h, twG_snoc, List.nil_append]
section
variable (cons : List (List UInt8))
def conS (n : List UInt8) (s : FS) : FS := if n ∈ cons then s else fltS s 4 n
mutual
def scE : TE → List (List UInt8) → FS → FS
  | .mk k n _ _ ps ks bs al, i, s =>
    if k = 1 then scA al i (scK ks i (if n ∈ i then s else fltS s 4 n))
    else if k = 2 then scA al i (scK ks i (conS cons n s))
    else if k = 6 then scA al (i ++ nmB bs) (scK ks (i ++ nmB bs) (scB bs (i ++ nmB bs) (twF (nmB bs) s)))
    else if k = 8 then scA al (i ++ ps) (scK ks (i ++ ps) (twF ps s))
    else scA al i (scK ks i s)
def scK : List TE → List (List UInt8) → FS → FS
  | [], _, s => s
  | e :: l, i, s => scK l i (scE e i s)
def scB : List TB → List (List UInt8) → FS → FS
  | [], _, s => s
  | .mk _ p e :: l, i, s => scB l i (scE e (i ++ p) (twF p s))
def scA : List TA → List (List UInt8) → FS → FS
  | [], _, s => s
  | .mk k n _ _ ns e :: l, i, s => scA l i (if k = 0 then scE e (i ++ ns) (twF ns (conS cons n s)) else if k = 2 then scE e (i ++ [n]) s else scE e i s)
end
theorem scK_app : ∀ (a b : List TE) (i : List (List UInt8)) (s : FS), scK cons (a ++ b) i s = scK cons b i (scK cons a i s)
  | [], _, _, _ => rfl
  | e :: l, b, i, s => scK_app l b i _
theorem scB_app : ∀ (a b : List TB) (i : List (List UInt8)) (s : FS), scB cons (a ++ b) i s = scB cons b i (scB cons a i s)
  | [], _, _, _ => rfl
  | .mk _ p e :: l, b, i, s => scB_app l b i _
theorem scA_app : ∀ (a b : List TA) (i : List (List UInt8)) (s : FS), scA cons (a ++ b) i s = scA cons b i (scA cons a i s)
  | [], _, _, _ => rfl
  | .mk k n _ _ ns e :: l, b, i, s => scA_app l b i _
theorem scK_take {ks : List TE} {j : Nat} (h : j < ks.length) (i : List (List UInt8)) (s : FS) : scK cons (ks.take (j + 1)) i s = scE cons ks[j] i (scK cons (ks.take j) i s) := by
  rw [List.take_succ_eq_append_getElem h, scK_app]
  rfl
theorem scB_take {bs : List TB} {j : Nat} (h : j < bs.length) (i : List (List UInt8)) (s : FS) : scB cons (bs.take (j + 1)) i s = scE cons bs[j].body (i ++ bs[j].params) (twF bs[j].params (scB cons (bs.take j) i s)) := by
  rw [List.take_succ_eq_append_getElem h, scB_app]
  obtain ⟨n, p, e⟩ := bs[j]
  rfl
/-- What one alternative does. -/
def scA1 (a : TA) (i : List (List UInt8)) (s : FS) : FS := if a.kind = 0 then scE cons a.body (i ++ a.names) (twF a.names (conS cons a.name s)) else if a.kind = 2 then scE cons a.body (i ++ [a.name]) s else scE cons a.body i s
theorem scA_take {al : List TA} {j : Nat} (h : j < al.length) (i : List (List UInt8)) (s : FS) : scA cons (al.take (j + 1)) i s = scA1 cons al[j] i (scA cons (al.take j) i s) := by
  rw [List.take_succ_eq_append_getElem h, scA_app]
  obtain ⟨k, n, f, b, ns, e⟩ := al[j]
  rfl
end
def falseN : List UInt8 := [70, 97, 108, 115, 101]
def trueN : List UInt8 := [84, 114, 117, 101]
def nothN : List UInt8 := [78, 111, 116, 104, 105, 110, 103]
def justN : List UInt8 := [74, 117, 115, 116]
def mainN : List UInt8 := [109, 97, 105, 110]
/-- The constructors' names. -/
def consN (m : TM) : List (List UInt8) := [falseN, trueN, nothN, justN] ++ m.cons.map (·.1)
/-- The first fault of a module. -/
def chkF (m : TM) : FS :=
  scB (consN m) m.binds (nmB m.binds) (if mainN ∈ nmB m.binds then twF (nmB m.binds) (twF (consN m) (0, [])) else fltS (twF (nmB m.binds) (twF (consN m) (0, []))) 10 mainN)
-- no fault
theorem flt_bad {s : FS} {e : Nat} {n : List UInt8} (he : e ≠ 0) : (fltS s e n).1 ≠ 0 := by
  unfold fltS
  split
  · exact he
  · rename_i h; exact h
theorem twG_zero : ∀ (l p : List (List UInt8)) (s : FS), (twG p l s).1 = 0 → s.1 = 0
  | [], _, s, h => h
  | x :: l, p, s, h => by
    have h1 := twG_zero l _ _ h
    split at h1
    · exact absurd h1 (flt_bad (by decide))
    · exact h1
theorem twF_zero {l : List (List UInt8)} {s : FS} (h : (twF l s).1 = 0) : s.1 = 0 := twG_zero l [] s h
section
variable {cons : List (List UInt8)}
theorem conS_zero {n : List UInt8} {s : FS} (h : (conS cons n s).1 = 0) : s.1 = 0 := by
  unfold conS at h
  split at h
  · exact h
  · exact absurd h (flt_bad (by decide))
mutual
theorem scE_zero : ∀ (e : TE) (i : List (List UInt8)) (s : FS), (scE cons e i s).1 = 0 → s.1 = 0
  | .mk k n _ _ ps ks bs al, i, s, h => by
    unfold scE at h
    split at h
    · have h := scK_zero ks i _ (scA_zero al i _ h)
      split at h
      · exact h
      · exact absurd h (flt_bad (by decide))
    · split at h
      · exact conS_zero (scK_zero ks i _ (scA_zero al i _ h))
      · split at h
        · exact twF_zero (scB_zero bs _ _ (scK_zero ks _ _ (scA_zero al _ _ h)))
        · split at h
          · exact twF_zero (scK_zero ks _ _ (scA_zero al _ _ h))
          · exact scK_zero ks i _ (scA_zero al i _ h)
theorem scK_zero : ∀ (l : List TE) (i : List (List UInt8)) (s : FS), (scK cons l i s).1 = 0 → s.1 = 0
  | [], _, s, h => h
  | e :: l, i, s, h => scE_zero e i s (scK_zero l i _ h)
theorem scB_zero : ∀ (l : List TB) (i : List (List UInt8)) (s : FS), (scB cons l i s).1 = 0 → s.1 = 0
  | [], _, s, h => h
  | .mk _ p e :: l, i, s, h => twF_zero (scE_zero e _ _ (scB_zero l i _ h))
theorem scA_zero : ∀ (l : List TA) (i : List (List UInt8)) (s : FS), (scA cons l i s).1 = 0 → s.1 = 0
  | [], _, s, h => h
  | .mk k n _ _ ns e :: l, i, s, h => by
    have h := scA_zero l i _ h
    split at h
    · exact conS_zero (twF_zero (scE_zero e _ _ h))
    · split at h
      · exact scE_zero e _ _ h
      · exact scE_zero e _ _ h
end
mutual
/-- Without a fault all names that occur are bound. -/
theorem scE_occ : ∀ (e : TE) (i b : List (List UInt8)) (s : FS), vsE e → (∀ x, x ∈ i → x ∈ b) → (scE cons e i s).1 = 0 → occE e b = []
  | .mk k n _ _ ps ks bs al, i, b, s, hv, hb, h => by
    unfold vsE at hv
    obtain ⟨hs, hk, hbv, ha⟩ := hv
    unfold scE at h
    unfold occE
    by_cases h1 : k = 1
    · rw [if_pos h1] at h ⊢
      have h := scK_zero ks i _ (scA_zero al i _ h)
      by_cases q : n ∈ i
      · rw [if_pos (hb n q)]
      · rw [if_neg q] at h
        exact absurd h (flt_bad (by decide))
    rw [if_neg h1] at h ⊢
    by_cases h2 : k = 2
    · rw [if_pos h2] at h
      rw [if_neg (by omega), if_neg (by omega), scK_occ ks i b _ hk hb (scA_zero al i _ h), scA_occ al i b _ ha hb h]
      rfl
    rw [if_neg h2] at h
    by_cases h6 : k = 6
    · rw [if_pos h6] at h ⊢
      have hb' : ∀ x, x ∈ i ++ nmB bs → x ∈ nmB bs ++ b := fun x hx => by
        rcases List.mem_append.1 hx with q | q
        · exact List.mem_append.2 (.inr (hb x q))
        · exact List.mem_append.2 (.inl q)
      have ha2 := scA_zero al _ _ h
      rw [scB_occ bs _ _ _ hbv hb' (scK_zero ks _ _ ha2), scK_occ ks _ _ _ hk hb' ha2]
      rfl
    rw [if_neg h6] at h ⊢
    by_cases h8 : k = 8
    · rw [if_pos h8] at h ⊢
      exact scK_occ ks _ _ _ hk (fun x hx => by
        rcases List.mem_append.1 hx with q | q
        · exact List.mem_append.2 (.inr (hb x q))
        · exact List.mem_append.2 (.inl q)) (scA_zero al _ _ h)
    · rw [if_neg h8] at h ⊢
      rw [scK_occ ks i b _ hk hb (scA_zero al i _ h), scA_occ al i b _ ha hb h]
      rfl
theorem scK_occ : ∀ (l : List TE) (i b : List (List UInt8)) (s : FS), vsK l → (∀ x, x ∈ i → x ∈ b) → (scK cons l i s).1 = 0 → occK l b = []
  | [], _, _, _, _, _, _ => rfl
  | e :: l, i, b, s, hv, hb, h => by
    unfold vsK at hv
    unfold occK
    rw [scE_occ e i b s hv.1 hb (scK_zero l i _ h), scK_occ l i b _ hv.2 hb h]
    rfl
theorem scB_occ : ∀ (l : List TB) (i b : List (List UInt8)) (s : FS), vsB l → (∀ x, x ∈ i → x ∈ b) → (scB cons l i s).1 = 0 → occB l b = []
  | [], _, _, _, _, _, _ => rfl
  | .mk _ p e :: l, i, b, s, hv, hb, h => by
    unfold vsB at hv
    unfold occB
    rw [scE_occ e (i ++ p) (p ++ b) _ hv.1 (fun x hx => by
        rcases List.mem_append.1 hx with q | q
        · exact List.mem_append.2 (.inr (hb x q))
        · exact List.mem_append.2 (.inl q)) (scB_zero l i _ h), scB_occ l i b _ hv.2 hb h]
    rfl
theorem scA_occ : ∀ (l : List TA) (i b : List (List UInt8)) (s : FS), vsA l → (∀ x, x ∈ i → x ∈ b) → (scA cons l i s).1 = 0 → occA l b = []
  | [], _, _, _, _, _, _ => rfl
  | .mk k n _ _ ns e :: l, i, b, s, hv, hb, h => by
    unfold vsA at hv
    unfold occA
    have h1 := scA_zero l i _ h
    rw [scA_occ l i b _ hv.2 hb h, List.append_nil]
    have hcat : ∀ c : List (List UInt8), ∀ x, x ∈ i ++ c → x ∈ c ++ b := fun c x hx => by
      rcases List.mem_append.1 hx with q | q
      · exact List.mem_append.2 (.inr (hb x q))
      · exact List.mem_append.2 (.inl q)
    by_cases h0 : k = 0
    · rw [if_pos h0] at h1
      rw [if_neg (by omega)]
      exact scE_occ e _ _ _ hv.1 (hcat ns) h1
    · rw [if_neg h0] at h1
      by_cases h2 : k = 2
      · rw [if_pos h2] at h1 ⊢
        exact scE_occ e _ _ _ hv.1 (hcat [n]) h1
      · rw [if_neg h2] at h1 ⊢
        exact scE_occ e _ _ _ hv.1 (fun x hx => List.mem_append.2 (.inr (hb x hx))) h1
end
end
end Go.Proofs.Ythpenpgcacikaaa
