/-
  What is shown of an expression, as tokens; these tokens, read, are the expression again, or it is too deep (plain words). No conditions.
-/
import Derived.Test.YtlnmicddobgppaaGreatDoorNnX
import Derived.Test.YtlnmicddobgppaaGreatDoorNnY
namespace Go.Proofs.YtlnmicddobgppaaGreatDoor
set_option maxHeartbeats 4000000
set_option linter.unusedSimpArgs false
set_option linter.unusedVariables false
open Go.RowKit
def tkT (k : Int) (x : List UInt8) : TokV := ⟨k, x, false, 0, 1⟩
def tCase : TokV := tkT 5 [99, 97, 115, 101]
def tOf : TokV := tkT 5 [111, 102]
def tLb : TokV := tkT 6 [123]
def tRb : TokV := tkT 6 [125]
def tBs : TokV := tkT 6 [92]
def tAr : TokV := tkT 6 [45, 62]
section
variable (pr : Bool → Nat → List UInt8)
def tkNum (fl : Bool) (bi : Nat) : TokV := ⟨3, numT (pr fl bi), fl, bi, 1⟩
def parK (e : TE) (t : List TokV) : List TokV := if bareE e = true then t else tLp :: (t ++ [tRp])
mutual
def tkE : TE → List TokV
 | .mk k n fl bi ps ks bs al =>
  if k = 1 then [tkT 1 n]
  else if k = 2 then tkT 2 n :: tkK ks
  else if k = 3 then [tkNum pr fl bi]
  else if k = 4 then tkH ks
  else if k = 5 then (if lowF n = true ∨ ks.length ≠ 2 then tkT 7 n :: tkK ks else tkO n ks)
  else if k = 6 then tLet :: (tkB bs ++ tIn :: tkX ks)
  else if k = 7 then tCase :: (tkX ks ++ tOf :: tLb :: (tkA al ++ [tRb]))
  else if k = 8 then tBs :: (ps.map (tkT 1) ++ tAr :: tkX ks)
  else []
def tkX : List TE → List TokV
 | [] => []
 | e :: _ => tkE e
def tkK : List TE → List TokV
 | [] => []
 | e :: l => parK e (tkE e) ++ tkK l
def tkH : List TE → List TokV
 | [] => []
 | e :: l => (if nakedE e = true then tLp :: (tkE e ++ [tRp]) else parK e (tkE e)) ++ tkK l
def tkO (n : List UInt8) : List TE → List TokV
 | [] => [tkT 4 n]
 | e :: l => parK e (tkE e) ++ tkT 4 n :: tkK l
def tkB : List TB → List TokV
 | [] => []
 | .mk n ps e :: l => tkT 1 n :: (ps.map (tkT 1) ++ tEq :: tkE e) ++ (if l.isEmpty then [] else tSe :: tkB l)
def tkA : List TA → List TokV
 | [] => []
 | .mk k n fl bi ns e :: l => (if k = 1 then [tkNum pr fl bi] else tkT (if k = 0 then 2 else 1) n :: ns.map (tkT 1)) ++ tAr :: tkE e ++ (if l.isEmpty then [] else tSe :: tkA l)
end
end
def StopA (t : TokV) : Prop := t.kind ≠ 1 ∧ t.kind ≠ 2 ∧ t.kind ≠ 7 ∧ t.kind ≠ 3 ∧ ((decide (t.kind = 5) || decide (t.kind = 6)) && decide (t.text = [40])) = false
theorem Stops.stopA {t : TokV} (h : Stops t) : StopA t := ⟨h.1, h.2.1, h.2.2.1, h.2.2.2.1, h.2.2.2.2.2⟩
section
variable {L : List TokV} {a : Nat} {t : TokV} {rest : List TokV} {ex : PS → TE × PS}
theorem atoms_stopA {n : Nat} {acc : List TE} (h : L[a]? = some t) (hs : StopA t) : atomsF L ex (n + 1) acc ⟨a, 0, 0⟩ = (acc, ⟨a, 0, 0⟩) := by
 obtain ⟨h1, h2, h3, h4, h6⟩ := hs
 have hp : kindP L ⟨a, 0, 0⟩ = t.kind := kind_of h
 conv => lhs; unfold atomsF
 rw [if_neg (by simp), if_neg (by rw [hp]; exact h1), if_neg (by rw [hp]; exact h2), if_neg (by rw [hp]; exact h3), if_neg (by rw [hp]; exact h4), if_pos (by rw [sees_of h]; exact h6)]
theorem atoms_con {n : Nat} {acc : List TE} (h : L[a]? = some t) (hk : t.kind = 2) : atomsF L ex (n + 1) acc ⟨a, 0, 0⟩ = atomsF L ex n (acc ++ [.mk 2 t.text false 0 [] [] [] []]) ⟨a + 1, 0, 0⟩ := by
 have hp : kindP L ⟨a, 0, 0⟩ = 2 := (kind_of h).trans hk
 conv => lhs; unfold atomsF
 rw [if_neg (by simp), if_neg (by rw [hp]; decide), if_pos hp]
 unfold tokenF
 rw [if_pos ⟨rfl, hp⟩]
 simp [h]
theorem atoms_back {n : Nat} {acc : List TE} (h : L[a]? = some t) (hk : t.kind = 7) : atomsF L ex (n + 1) acc ⟨a, 0, 0⟩ = atomsF L ex n (acc ++ [.mk 5 t.text false 0 [] [] [] []]) ⟨a + 1, 0, 0⟩ := by
 have hp : kindP L ⟨a, 0, 0⟩ = 7 := (kind_of h).trans hk
 conv => lhs; unfold atomsF
 rw [if_neg (by simp), if_neg (by rw [hp]; decide), if_neg (by rw [hp]; decide), if_pos hp]
 unfold tokenF
 rw [if_pos ⟨rfl, hp⟩]
 simp [h]
theorem atoms_num {n : Nat} {acc : List TE} (h : L[a]? = some t) (hk : t.kind = 3) : atomsF L ex (n + 1) acc ⟨a, 0, 0⟩ = atomsF L ex n (acc ++ [.mk 3 [] t.flt t.bits [] [] [] []]) ⟨a + 1, 0, 0⟩ := by
 have hp : kindP L ⟨a, 0, 0⟩ = 3 := (kind_of h).trans hk
 conv => lhs; unfold atomsF
 rw [if_neg (by simp), if_neg (by rw [hp]; decide), if_neg (by rw [hp]; decide), if_neg (by rw [hp]; decide), if_pos hp]
 unfold tokenF
 rw [if_pos ⟨rfl, hp⟩]
 simp [h]
def ReadsE (L : List TokV) (ex : PS → TE × PS) (a : Nat) (E : TE) (n : Nat) : Prop := ex ⟨a, 0, 0⟩ = (E, ⟨a + n, 0, 0⟩) ∨ (ex ⟨a, 0, 0⟩).2.e = 12
theorem drop_app {x y : List TokV} (h : L.drop a = x ++ y) : L.drop (a + x.length) = y := by
 rw [← List.drop_drop, h, List.drop_left' rfl]
theorem atoms_par {n : Nat} {acc : List TE} {E : TE} {T r2 : List TokV} (h : L.drop a = tLp :: (T ++ tRp :: r2)) (hE : ReadsE L ex (a + 1) E T.length) : atomsF L ex (n + 1) acc ⟨a, 0, 0⟩ = atomsF L ex n (acc ++ [E]) ⟨a + (T.length + 2), 0, 0⟩ ∨ (atomsF L ex (n + 1) acc ⟨a, 0, 0⟩).2.e = 12 := by
 obtain ⟨g1, g2, g3⟩ := at_drop h
 have hd := drop_app g2
 obtain ⟨g4, g5, g6⟩ := at_drop hd
 rw [atoms_open g1]
 rcases hE with q | q
 · left
   rw [q]
   simp only
   rw [need_at g4 rfl, show a + 1 + T.length + 1 = a + (T.length + 2) by omega]
 · right
   have hne : (ex ⟨a + 1, 0, 0⟩).2.e ≠ 0 := by rw [q]; decide
   rw [need_err hne, atoms_err hne]
   exact q
theorem rp_stops : Stops tRp := by unfold Stops; decide
variable {pr : Bool → Nat → List UInt8} {L0 : List TokV}
theorem bare_token {e : TE} (hw : wfE L0 e) (hb : bareE e = true) : ∃ t, tkE pr e = [t] ∧ ∀ {n : Nat} {acc : List TE} {a : Nat}, L[a]? = some t → atomsF L ex (n + 1) acc ⟨a, 0, 0⟩ = atomsF L ex n (acc ++ [e]) ⟨a + 1, 0, 0⟩ := by
 obtain ⟨k, n, fl, bi, ps, ks, bs, al⟩ := e
 unfold wfE at hw
 obtain ⟨hs, _⟩ := hw
 unfold bareE at hb
 rcases hs with ⟨rfl, _, rfl, rfl, rfl, rfl, rfl, rfl⟩ | ⟨rfl, _, rfl, rfl, rfl, rfl, rfl⟩ | ⟨rfl, rfl, _, rfl, rfl, rfl, rfl⟩ | ⟨rfl, _, _, _, h2, _⟩ | ⟨rfl, hn, rfl, rfl, rfl, rfl, rfl⟩ | ⟨rfl, _⟩ | ⟨rfl, _⟩ | ⟨rfl, _⟩
 · exact ⟨tkT 1 n, by simp [tkE], fun h => atoms_name h rfl⟩
 · have hk : ks = [] := by cases ks <;> simp at hb ⊢
   subst hk
   exact ⟨tkT 2 n, by simp [tkE, tkK], fun h => atoms_con h rfl⟩
 · exact ⟨tkNum pr fl bi, by simp [tkE], fun h => atoms_num h rfl⟩
 · exfalso
   cases ks <;> simp at hb h2
 · have hk : ks = [] := by cases ks <;> simp at hb ⊢
   subst hk
   exact ⟨tkT 7 n, by simp [tkE, tkK], fun h => atoms_back h rfl⟩
 · exfalso; cases ks <;> simp at hb
 · exfalso; cases ks <;> simp at hb
 · exfalso; cases ks <;> simp at hb
theorem atom_step {e : TE} (hw : wfE L0 e) (ih : ∀ (a : Nat) (t2 : TokV) (r2 : List TokV), L.drop a = tkE pr e ++ t2 :: r2 → Stops t2 → ReadsE L ex a e (tkE pr e).length) {n : Nat} {acc : List TE} {r2 : List TokV} (h : L.drop a = parK e (tkE pr e) ++ r2) :
 atomsF L ex (n + 1) acc ⟨a, 0, 0⟩ = atomsF L ex n (acc ++ [e]) ⟨a + (parK e (tkE pr e)).length, 0, 0⟩ ∨ (atomsF L ex (n + 1) acc ⟨a, 0, 0⟩).2.e = 12 := by
 unfold parK at h ⊢
 by_cases hb : bareE e = true
 · rw [if_pos hb] at h ⊢
   obtain ⟨t, ht, hstep⟩ := bare_token (pr := pr) (L := L) (ex := ex) hw hb
   rw [ht] at h ⊢
   left
   rw [hstep (at_drop h).1]
   rfl
 · rw [if_neg hb] at h ⊢
   have h' : L.drop a = tLp :: (tkE pr e ++ tRp :: r2) := by rw [h]; simp
   have := atoms_par (n := n) (acc := acc) h' (ih _ _ _ (at_drop h').2.1 rp_stops)
   simpa using this
theorem atoms_all {ks : List TE} (hw : ∀ e ∈ ks, wfE L0 e) (ih : ∀ e ∈ ks, ∀ (a : Nat) (t2 : TokV) (r2 : List TokV), L.drop a = tkE pr e ++ t2 :: r2 → Stops t2 → ReadsE L ex a e (tkE pr e).length) {t2 : TokV} {r2 : List TokV} (hs : StopA t2) : ∀ (n : Nat) (acc : List TE) (a : Nat), L.drop a = tkK pr ks ++ t2 :: r2 → ks.length < n →
 atomsF L ex n acc ⟨a, 0, 0⟩ = (acc ++ ks, ⟨a + (tkK pr ks).length, 0, 0⟩) ∨ (atomsF L ex n acc ⟨a, 0, 0⟩).2.e = 12 := by
 induction ks with
 | nil =>
  intro n acc a h hn
  obtain ⟨m, rfl⟩ : ∃ m, n = m + 1 := ⟨n - 1, by simp at hn; omega⟩
  left
  unfold tkK at h ⊢
  rw [atoms_stopA (at_drop h).1 hs]
  simp
 | cons e ks ihk =>
  intro n acc a h hn
  obtain ⟨m, rfl⟩ : ∃ m, n = m + 1 := ⟨n - 1, by simp at hn; omega⟩
  have h0 : L.drop a = parK e (tkE pr e) ++ (tkK pr ks ++ t2 :: r2) := by rw [h, tkK]; simp
  rcases atom_step (n := m) (acc := acc) (hw e (by simp)) (ih e (by simp)) h0 with q | q
  · rw [q]
    have hd := drop_app h0
    rcases ihk (fun x hx => hw x (by simp [hx])) (fun x hx => ih x (by simp [hx])) m (acc ++ [e]) _ hd (by simp at hn; omega) with z | z
    · left
      rw [z, tkK]
      simp [Nat.add_assoc]
    · exact .inr z
  · exact .inr q
-- first tokens
def RowT (t : TokV) : Prop := t.kind = 1 ∨ t.kind = 2 ∨ t.kind = 3 ∨ t.kind = 7 ∨ t = tLp
theorem row_first {t : TokV} (h : RowT t) (w : List UInt8) (hw : w ≠ [40]) : ((decide (t.kind = 5) || decide (t.kind = 6)) && decide (t.text = w)) = false := by
 rcases h with h | h | h | h | h
 · rw [h]; rfl
 · rw [h]; rfl
 · rw [h]; rfl
 · rw [h]; rfl
 · subst h
   have : ¬ tLp.text = w := fun q => hw q.symm
   simp [this]
def LowOk (L0 : List TokV) : Prop := (∀ n, isT L0 7 n → lowF n = true) ∧ (∀ n, isT L0 4 n → lowF n = false)
theorem wfK_all : ∀ {ks : List TE}, wfK L0 ks → ∀ e ∈ ks, wfE L0 e
 | [], _, e, he => by cases he
 | x :: l, h, e, he => by
  obtain ⟨h1, h2⟩ := h
  rcases List.mem_cons.1 he with rfl | q
  · exact h1
  · exact wfK_all h2 e q
theorem parK_first (e : TE) (t : List TokV) (h : bareE e = true → ∃ x r, t = x :: r ∧ RowT x) : ∃ x r, parK e t = x :: r ∧ RowT x := by
 unfold parK
 split
 · rename_i q; exact h q
 · exact ⟨tLp, _, rfl, .inr (.inr (.inr (.inr rfl)))⟩
theorem bare_first {e : TE} (hw : wfE L0 e) (hb : bareE e = true) : ∃ x r, tkE pr e = x :: r ∧ RowT x := by
 obtain ⟨k, n, fl, bi, ps, ks, bs, al⟩ := e
 unfold wfE at hw
 obtain ⟨hs, _⟩ := hw
 unfold bareE at hb
 rcases hs with ⟨rfl, _, rfl, rfl, rfl, rfl, rfl, rfl⟩ | ⟨rfl, _, rfl, rfl, rfl, rfl, rfl⟩ | ⟨rfl, rfl, _, rfl, rfl, rfl, rfl⟩ | ⟨rfl, _, _, _, h2, _⟩ | ⟨rfl, hn, rfl, rfl, rfl, rfl, rfl⟩ | ⟨rfl, _⟩ | ⟨rfl, _⟩ | ⟨rfl, _⟩
 · exact ⟨tkT 1 n, [], by simp [tkE], .inl rfl⟩
 · exact ⟨tkT 2 n, tkK pr ks, by simp [tkE], .inr (.inl rfl)⟩
 · exact ⟨tkNum pr fl bi, [], by simp [tkE], .inr (.inr (.inl rfl))⟩
 · exfalso
   cases ks <;> simp at hb h2
 · have hk : ks = [] := by cases ks <;> simp at hb ⊢
   subst hk
   exact ⟨tkT 7 n, [], by simp [tkE, tkK], .inr (.inr (.inr (.inl rfl)))⟩
 · exfalso; cases ks <;> simp at hb
 · exfalso; cases ks <;> simp at hb
 · exfalso; cases ks <;> simp at hb
theorem naked_bare {e : TE} (h : nakedE e = true) : bareE e = true := by
 obtain ⟨k, n, fl, bi, ps, ks, bs, al⟩ := e
 unfold nakedE at h
 unfold bareE
 simp only at h ⊢
 rw [h]
 simp
theorem head_first {e : TE} {l : List TE} (hw : wfE L0 e) : ∃ x r, tkH pr (e :: l) = x :: r ∧ RowT x ∧ x.kind ≠ 2 ∧ x.kind ≠ 7 := by
 rw [tkH]
 by_cases hn : nakedE e = true
 · rw [if_pos hn]
   exact ⟨tLp, _, rfl, .inr (.inr (.inr (.inr rfl))), by decide, by decide⟩
 · rw [if_neg hn]
   unfold parK
   by_cases hb : bareE e = true
   · rw [if_pos hb]
     obtain ⟨k, n, fl, bi, ps, ks, bs, al⟩ := e
     unfold wfE at hw
     obtain ⟨hs, _⟩ := hw
     unfold bareE at hb
     unfold nakedE at hn
     rcases hs with ⟨rfl, _, rfl, rfl, rfl, rfl, rfl, rfl⟩ | ⟨rfl, _, rfl, rfl, rfl, rfl, rfl⟩ | ⟨rfl, rfl, _, rfl, rfl, rfl, rfl⟩ | ⟨rfl, _, _, _, h2, _⟩ | ⟨rfl, hn2, rfl, rfl, rfl, rfl, rfl⟩ | ⟨rfl, _⟩ | ⟨rfl, _⟩ | ⟨rfl, _⟩
     · exact ⟨tkT 1 n, tkK pr l, by simp [tkE], .inl rfl, by show (1 : Int) ≠ 2; decide, by show (1 : Int) ≠ 7; decide⟩
     · exfalso; cases ks <;> simp at hb hn
     · exact ⟨tkNum pr fl bi, tkK pr l, by simp [tkE], .inr (.inr (.inl rfl)), by show (3 : Int) ≠ 2; decide, by show (3 : Int) ≠ 7; decide⟩
     · exfalso; cases ks <;> simp at hb h2
     · exfalso; cases ks <;> simp at hb hn
     · exfalso; cases ks <;> simp at hb
     · exfalso; cases ks <;> simp at hb
     · exfalso; cases ks <;> simp at hb
   · rw [if_neg hb]
     exact ⟨tLp, _, rfl, .inr (.inr (.inr (.inr rfl))), by decide, by decide⟩
def BegT (t : TokV) : Prop := RowT t ∨ t = tLet ∨ t = tCase ∨ t = tBs
theorem expr_first {e : TE} (hw : wfE L0 e) : ∃ x r, tkE pr e = x :: r ∧ BegT x ∧ (e.kind ≤ 5 → RowT x) := by
 obtain ⟨k, n, fl, bi, ps, ks, bs, al⟩ := e
 unfold wfE at hw
 obtain ⟨hs, hwk, _⟩ := hw
 rcases hs with ⟨rfl, _, rfl, rfl, rfl, rfl, rfl, rfl⟩ | ⟨rfl, _, rfl, rfl, rfl, rfl, rfl⟩ | ⟨rfl, rfl, _, rfl, rfl, rfl, rfl⟩ | ⟨rfl, _, _, _, h2, _⟩ | ⟨rfl, hn, rfl, rfl, rfl, rfl, rfl⟩ | ⟨rfl, _⟩ | ⟨rfl, _⟩ | ⟨rfl, _⟩
 · exact ⟨tkT 1 n, [], by simp [tkE], .inl (.inl rfl), fun _ => .inl rfl⟩
 · exact ⟨tkT 2 n, tkK pr ks, by simp [tkE], .inl (.inr (.inl rfl)), fun _ => .inr (.inl rfl)⟩
 · exact ⟨tkNum pr fl bi, [], by simp [tkE], .inl (.inr (.inr (.inl rfl))), fun _ => .inr (.inr (.inl rfl))⟩
 · cases ks with
   | nil => simp at h2
   | cons e l =>
    obtain ⟨x, r, e1, e2, _⟩ := head_first (pr := pr) (l := l) hwk.1
    exact ⟨x, r, by rw [← e1]; simp [tkE], .inl e2, fun _ => e2⟩
 · by_cases hc : lowF n = true ∨ ks.length ≠ 2
   · exact ⟨tkT 7 n, tkK pr ks, by simp only [tkE]; rw [if_pos hc]; rfl, .inl (.inr (.inr (.inr (.inl rfl)))), fun _ => .inr (.inr (.inr (.inl rfl)))⟩
   · cases ks with
     | nil => exact absurd (.inr (by simp)) hc
     | cons e l =>
      obtain ⟨x, r, e1, e2⟩ := parK_first e (tkE pr e) (fun q => bare_first hwk.1 q)
      refine ⟨x, r ++ tkT 4 n :: tkK pr l, ?_, .inl e2, fun _ => e2⟩
      simp only [tkE]
      rw [if_neg hc, tkO, e1]
      rfl
 · exact ⟨tLet, _, by simp [tkE]; rfl, .inr (.inl rfl), fun q => absurd q (by simp [TE.kind])⟩
 · exact ⟨tCase, _, by simp [tkE]; rfl, .inr (.inr (.inl rfl)), fun q => absurd q (by simp [TE.kind])⟩
 · exact ⟨tBs, _, by simp [tkE]; rfl, .inr (.inr (.inr rfl)), fun q => absurd q (by simp [TE.kind])⟩
theorem beg_starts {t : TokV} (h : L[a]? = some t) (hb : BegT t) {e l : Nat} : startsF L ⟨a, e, l⟩ = true := by
 have hp : kindP L ⟨a, e, l⟩ = t.kind := kind_of h
 unfold startsF
 rw [hp, sees_of h, sees_of h, sees_of h, sees_of h]
 rcases hb with (q | q | q | q | q) | q | q | q
 · rw [if_pos (.inl q)]
 · rw [if_pos (.inr (.inl q))]
 · rw [if_pos (.inr (.inr (.inl q)))]
 · rw [if_pos (.inr (.inr (.inr q)))]
 · subst q; rfl
 · subst q; rfl
 · subst q; rfl
 · subst q; rfl
theorem reads_zero {e : TE} (hw : wfE L0 e) {r2 : List TokV} (h : L.drop a = tkE pr e ++ r2) : ReadsE L (exprF L 0) a e (tkE pr e).length := by
 obtain ⟨x, r, e1, e2, _⟩ := expr_first (pr := pr) hw
 rw [e1] at h
 obtain ⟨g1, g2, g3⟩ := at_drop h
 right
 unfold exprF
 rw [if_neg (by simp), if_pos (beg_starts g1 e2)]
 simp [faultF, g1]
theorem tkK_long {ks : List TE} (hw : ∀ e ∈ ks, wfE L0 e) : ks.length ≤ (tkK pr ks).length := by
 induction ks with
 | nil => simp
 | cons e l ih =>
  rw [tkK]
  have := ih (fun x hx => hw x (by simp [hx]))
  obtain ⟨x, r, e1, _⟩ := parK_first e (tkE pr e) (fun q => bare_first (hw e (by simp)) q)
  rw [e1]
  simp
  omega
theorem drop_len {x : List TokV} (h : L.drop a = x) : x.length ≤ L.length := by
 rw [← h, List.length_drop]
 omega
-- rows
theorem row_single {e : TE} (hw : wfE L0 e) (ih : ∀ (a : Nat) (t2 : TokV) (r2 : List TokV), L.drop a = tkE pr e ++ t2 :: r2 → Stops t2 → ReadsE L ex a e (tkE pr e).length) {t2 : TokV} {r2 : List TokV} (hs : StopA t2) (h : L.drop a = parK e (tkE pr e) ++ t2 :: r2) : ReadsE L (rowF L ex) a e (parK e (tkE pr e)).length := by
 have h1 : L.drop a = tkK pr [e] ++ t2 :: r2 := by rw [h]; simp [tkK]
 have hn := drop_len h1
 rcases atoms_all (ks := [e]) (L0 := L0) (ex := ex) (by simpa using hw) (by simpa using ih) hs (fuelP L) [] a h1 (by unfold fuelP; simp) with q | q
 · left
   rw [row_alone q]
   simp [tkK]
 · right
   unfold rowF
   simp only
   split
   · unfold faultF; rw [if_pos (by rw [q]; decide)]; exact q
   · exact q
   · split <;> exact q
theorem row_err (h : (atomsF L ex (fuelP L) [] ⟨a, 0, 0⟩).2.e = 12) : (rowF L ex ⟨a, 0, 0⟩).2.e = 12 := by
 unfold rowF
 simp only
 split
 · unfold faultF; rw [if_pos (by rw [h]; decide)]; exact h
 · exact h
 · split <;> exact h
theorem row_con {k : Nat} {kt : Int} {n : List UInt8} {ks : List TE} (hk : kt = 2 ∧ k = 2 ∨ kt = 7 ∧ k = 5) (hw : ∀ e ∈ ks, wfE L0 e) (ih : ∀ e ∈ ks, ∀ (a : Nat) (t2 : TokV) (r2 : List TokV), L.drop a = tkE pr e ++ t2 :: r2 → Stops t2 → ReadsE L ex a e (tkE pr e).length) {t2 : TokV} {r2 : List TokV} (hs : StopA t2) (h : L.drop a = tkT kt n :: (tkK pr ks ++ t2 :: r2)) :
 ReadsE L (rowF L ex) a (.mk k n false 0 [] ks [] []) ((tkK pr ks).length + 1) := by
 obtain ⟨g1, g2, g3⟩ := at_drop h
 have hl := drop_len g2
 have hkl := tkK_long (pr := pr) hw
 have hp : kindP L ⟨a, 0, 0⟩ = kt := kind_of g1
 have hfirst : atomsF L ex (fuelP L) [] ⟨a, 0, 0⟩ = atomsF L ex (L.length + 1) [.mk k n false 0 [] [] [] []] ⟨a + 1, 0, 0⟩ := by
  rcases hk with ⟨rfl, rfl⟩ | ⟨rfl, rfl⟩
  · rw [fuel_two, atoms_con g1 rfl]; rfl
  · rw [fuel_two, atoms_back g1 rfl]; rfl
 rcases atoms_all hw ih hs (L.length + 1) [.mk k n false 0 [] [] [] []] (a + 1) g2 (by simp at hl; omega) with q | q
 · left
   rw [← hfirst] at q
   cases ks with
   | nil =>
    rw [row_alone q]
    simp [tkK]
   | cons e l =>
    unfold rowF
    rw [q]
    simp only [List.cons_append, List.nil_append]
    rw [if_pos (by rw [hp]; rcases hk with z | z <;> simp [z.1])]
    have e : a + 1 + (tkK pr (e :: l)).length = a + ((tkK pr (e :: l)).length + 1) := by omega
    rw [e]
    rfl
 · right
   rw [← hfirst] at q
   exact row_err q
theorem row_app {e : TE} {l : List TE} (hl0 : l ≠ []) (hw : ∀ x ∈ e :: l, wfE L0 x) (ih : ∀ x ∈ e :: l, ∀ (a : Nat) (t2 : TokV) (r2 : List TokV), L.drop a = tkE pr x ++ t2 :: r2 → Stops t2 → ReadsE L ex a x (tkE pr x).length) {t2 : TokV} {r2 : List TokV} (hs : StopA t2) (h : L.drop a = tkH pr (e :: l) ++ t2 :: r2) :
 ReadsE L (rowF L ex) a (.mk 4 [] false 0 [] (e :: l) [] []) (tkH pr (e :: l)).length := by
 obtain ⟨x, r, f1, f2, f3, f4⟩ := head_first (pr := pr) (l := l) (hw e (by simp))
 have h1 : L.drop a = x :: (r ++ t2 :: r2) := by rw [h, f1]; rfl
 obtain ⟨g1, g2, g3⟩ := at_drop h1
 have hp : kindP L ⟨a, 0, 0⟩ = x.kind := kind_of g1
 have hfirst : ∃ m, (tkH pr (e :: l)) = m ++ tkK pr l ∧ 0 < m.length ∧ (atomsF L ex (fuelP L) [] ⟨a, 0, 0⟩ = atomsF L ex (L.length + 1) [e] ⟨a + m.length, 0, 0⟩ ∨ (atomsF L ex (fuelP L) [] ⟨a, 0, 0⟩).2.e = 12) := by
  rw [tkH] at h ⊢
  by_cases hn : nakedE e = true
  · rw [if_pos hn] at h ⊢
    refine ⟨_, rfl, by simp, ?_⟩
    have h' : L.drop a = tLp :: (tkE pr e ++ tRp :: (tkK pr l ++ t2 :: r2)) := by rw [h]; simp
    have := atoms_par (n := L.length + 1) (acc := []) h' (ih e (by simp) _ _ _ (at_drop h').2.1 rp_stops)
    simpa [fuel_two] using this
  · rw [if_neg hn] at h ⊢
    obtain ⟨y, z, e1, _⟩ := parK_first e (tkE pr e) (fun q => bare_first (hw e (by simp)) q)
    refine ⟨_, rfl, by rw [e1]; simp, ?_⟩
    have h' : L.drop a = parK e (tkE pr e) ++ (tkK pr l ++ t2 :: r2) := by rw [h]; simp
    have := atom_step (n := L.length + 1) (acc := []) (hw e (by simp)) (ih e (by simp)) h'
    simpa [fuel_two] using this
 obtain ⟨m, hm, hm0, hf⟩ := hfirst
 rcases hf with hf | hf
 · have h2 : L.drop a = m ++ (tkK pr l ++ t2 :: r2) := by rw [h, hm]; simp
   have h3 := drop_app h2
   have hlen := drop_len h3
   have hkl := tkK_long (pr := pr) (ks := l) (fun x hx => hw x (by simp [hx]))
   rcases atoms_all (ks := l) (L0 := L0) (fun x hx => hw x (by simp [hx])) (fun x hx => ih x (by simp [hx])) hs (L.length + 1) [e] _ h3 (by simp at hlen; omega) with q | q
   · left
     rw [← hf] at q
     cases l with
     | nil => exact absurd rfl hl0
     | cons e2 l =>
      unfold rowF
      rw [q]
      simp only [List.cons_append, List.nil_append]
      rw [if_neg (by rw [hp]; exact fun z => z.elim f3 f4), hm, List.length_append, Nat.add_assoc]
   · right
     rw [← hf] at q
     exact row_err q
 · right
   exact row_err hf
-- names, binds, alternatives
theorem names_reads {t : TokV} {r : List TokV} (ht : t.kind ≠ 1) : ∀ (ns : List (List UInt8)) (n : Nat) (least : Bool) (acc : List (List UInt8)) (a : Nat), L.drop a = ns.map (tkT 1) ++ t :: r → ns.length < n → (least = true → ns ≠ []) →
 namesF L n least acc ⟨a, 0, 0⟩ = (acc ++ ns, ⟨a + ns.length, 0, 0⟩)
 | [], n, least, acc, a, h, hn, hl => by
  obtain ⟨m, rfl⟩ : ∃ m, n = m + 1 := ⟨n - 1, by simp at hn; omega⟩
  have hp : kindP L ⟨a, 0, 0⟩ = t.kind := kind_of (at_drop h).1
  unfold namesF
  rw [if_neg (fun q => q.2.elim (fun z => hl z rfl) (fun z => ht (hp ▸ z)))]
  simp
 | x :: ns, n, least, acc, a, h, hn, hl => by
  obtain ⟨m, rfl⟩ : ∃ m, n = m + 1 := ⟨n - 1, by simp at hn; omega⟩
  obtain ⟨g1, g2, g3⟩ := at_drop (by simpa using h : L.drop a = tkT 1 x :: (ns.map (tkT 1) ++ t :: r))
  have hp : kindP L ⟨a, 0, 0⟩ = 1 := kind_of g1
  have htk : tokenF L 1 ⟨a, 0, 0⟩ = (tkT 1 x, ⟨a + 1, 0, 0⟩) := by unfold tokenF; rw [if_pos ⟨rfl, hp⟩]; simp [g1]
  unfold namesF
  rw [if_pos ⟨rfl, .inr hp⟩, htk]
  simp only
  rw [names_reads ht ns m false _ _ g2 (by simp at hn; omega) (fun q => by cases q)]
  simp [tkT]
  omega
theorem map_len {ns : List (List UInt8)} {y : List TokV} (h : L.drop a = ns.map (tkT 1) ++ y) : ns.length < fuelP L := by
 have := drop_len h
 unfold fuelP
 simp at this
 omega
theorem at_map {ns : List (List UInt8)} {y : List TokV} (h : L.drop a = ns.map (tkT 1) ++ y) : L.drop (a + ns.length) = y := by
 have := drop_app h
 simpa using this
def Reading (pr : Bool → Nat → List UInt8) (L : List TokV) (ex : PS → TE × PS) (e : TE) : Prop := ∀ (a : Nat) (t2 : TokV) (r2 : List TokV), L.drop a = tkE pr e ++ t2 :: r2 → Stops t2 → ReadsE L ex a e (tkE pr e).length
def bdT (pr : Bool → Nat → List UInt8) (n : List UInt8) (ps : List (List UInt8)) (e : TE) : List TokV := (n :: ps).map (tkT 1) ++ tEq :: tkE pr e
theorem bind_reads {n : List UInt8} {ps : List (List UInt8)} {e : TE} (ih : Reading pr L ex e) {t2 : TokV} {r2 : List TokV} (hs : Stops t2) (h : L.drop a = bdT pr n ps e ++ t2 :: r2) :
 bindF L ex ⟨a, 0, 0⟩ = (.mk n ps e, ⟨a + (bdT pr n ps e).length, 0, 0⟩) ∨ (bindF L ex ⟨a, 0, 0⟩).2.e = 12 := by
 have h1 : L.drop a = (n :: ps).map (tkT 1) ++ tEq :: (tkE pr e ++ t2 :: r2) := by rw [h]; unfold bdT; simp
 have hn := names_reads (t := tEq) (by decide) (n :: ps) (fuelP L) true [] a h1 (map_len h1) (fun _ => by simp)
 have h2 := at_map h1
 obtain ⟨g1, g2, g3⟩ := at_drop h2
 unfold bindF
 simp only
 rw [hn]
 simp only [List.nil_append]
 rw [need_at g1 rfl]
 rcases ih _ _ _ g2 hs with q | q
 · left
   rw [q]
   simp [bdT]
   omega
 · right
   exact q
def tailB (pr : Bool → Nat → List UInt8) (l : List TB) : List TokV := if l.isEmpty then [] else tSe :: tkB pr l
theorem tkB_cons (n : List UInt8) (ps : List (List UInt8)) (e : TE) (l : List TB) : tkB pr (.mk n ps e :: l) = bdT pr n ps e ++ tailB pr l := by
 rw [tkB]
 unfold bdT tailB
 simp
theorem tailB_cons (b : TB) (l : List TB) : tailB pr (b :: l) = tSe :: tkB pr (b :: l) := rfl
theorem semi_stops : Stops tSe := by unfold Stops; decide
theorem tailB_first (l : List TB) {t : TokV} {r : List TokV} (ht : Stops t) : ∃ t2 r2, tailB pr l ++ t :: r = t2 :: r2 ∧ Stops t2 := by
 cases l with
 | nil => exact ⟨t, r, rfl, ht⟩
 | cons b l => exact ⟨tSe, _, rfl, semi_stops⟩
def allB (P : TE → Prop) (l : List TB) : Prop := ∀ b ∈ l, P b.body
def allA (P : TE → Prop) (l : List TA) : Prop := ∀ b ∈ l, P b.body
theorem binds_err {n : Nat} {acc : List TB} {s : PS} (h : s.e ≠ 0) : bindsF L ex n acc s = (acc, s) := by
 cases n with
 | zero => rfl
 | succ n => unfold bindsF; rw [if_neg (fun q => h q.1)]
theorem alts_err {n : Nat} {acc : List TA} {s : PS} (h : s.e ≠ 0) : altsF L ex n acc s = (acc, s) := by
 cases n with
 | zero => rfl
 | succ n => unfold altsF; rw [if_neg (fun q => h q.1)]
theorem binds_reads {t : TokV} {r : List TokV} (ht : Stops t) (h59 : ((decide (t.kind = 5) || decide (t.kind = 6)) && decide (t.text = [59])) = false) : ∀ (l : List TB) (n : Nat) (acc : List TB) (a : Nat), allB (Reading pr L ex) l → L.drop a = tailB pr l ++ t :: r → l.length < n →
 bindsF L ex n acc ⟨a, 0, 0⟩ = (acc ++ l, ⟨a + (tailB pr l).length, 0, 0⟩) ∨ (bindsF L ex n acc ⟨a, 0, 0⟩).2.e = 12
 | [], n, acc, a, ih, h, hn => by
  obtain ⟨m, rfl⟩ : ∃ m, n = m + 1 := ⟨n - 1, by simp at hn; omega⟩
  left
  unfold bindsF
  rw [if_neg (fun q => by rw [sees_of (at_drop h).1, h59] at q; exact absurd q.2 (by decide))]
  simp [tailB]
 | .mk x ps e :: l, n, acc, a, ih, h, hn => by
  obtain ⟨m, rfl⟩ : ∃ m, n = m + 1 := ⟨n - 1, by simp at hn; omega⟩
  have h1 : L.drop a = tSe :: (bdT pr x ps e ++ (tailB pr l ++ t :: r)) := by rw [h, tailB_cons, tkB_cons]; simp
  obtain ⟨g1, g2, g3⟩ := at_drop h1
  obtain ⟨t2, r2, e1, e2⟩ := tailB_first (pr := pr) l (r := r) ht
  unfold bindsF
  rw [if_pos ⟨rfl, by rw [sees_of g1]; rfl⟩]
  have g2' := g2
  rw [e1] at g2'
  rcases bind_reads (e := e) (ih (.mk x ps e) (by simp)) e2 g2' with q | q
  · simp only
    rw [q]
    simp only
    have h3 := drop_app g2
    rcases binds_reads ht h59 l m (acc ++ [.mk x ps e]) _ (fun b hb => ih b (by simp [hb])) h3 (by simp at hn; omega) with z | z
    · left
      rw [z, tailB_cons, tkB_cons]
      simp [Nat.add_assoc, Nat.add_comm, Nat.add_left_comm]
    · exact .inr z
  · right
    simp only
    rw [binds_err (by rw [q]; decide)]
    exact q
def hdT (pr : Bool → Nat → List UInt8) (k : Nat) (n : List UInt8) (fl : Bool) (bi : Nat) (ns : List (List UInt8)) : List TokV := if k = 1 then [tkNum pr fl bi] else tkT (if k = 0 then 2 else 1) n :: ns.map (tkT 1)
def alT (pr : Bool → Nat → List UInt8) (k : Nat) (n : List UInt8) (fl : Bool) (bi : Nat) (ns : List (List UInt8)) (e : TE) : List TokV := hdT pr k n fl bi ns ++ tAr :: tkE pr e
def okA (k : Nat) (n : List UInt8) (fl : Bool) (bi : Nat) (ns : List (List UInt8)) : Prop := (k = 0 ∧ fl = false ∧ bi = 0) ∨ (k = 1 ∧ n = [] ∧ ns = []) ∨ (k = 2 ∧ fl = false ∧ bi = 0 ∧ ns = [])
theorem altHead_reads {k : Nat} {n : List UInt8} {fl : Bool} {bi : Nat} {ns : List (List UInt8)} (hok : okA k n fl bi ns) {r : List TokV} (h : L.drop a = hdT pr k n fl bi ns ++ tAr :: r) :
 ∃ f : TE → TA, altHead L ⟨a, 0, 0⟩ = (f, ⟨a + (hdT pr k n fl bi ns).length, 0, 0⟩) ∧ ∀ e, f e = .mk k n fl bi ns e := by
 unfold altHead hdT at *
 rcases hok with ⟨rfl, rfl, rfl⟩ | ⟨rfl, rfl, rfl⟩ | ⟨rfl, rfl, rfl, rfl⟩
 · rw [if_neg (by decide), if_pos rfl] at h
   obtain ⟨g1, g2, g3⟩ := at_drop (by simpa using h : L.drop a = tkT 2 n :: (ns.map (tkT 1) ++ tAr :: r))
   have hp : kindP L ⟨a, 0, 0⟩ = 2 := kind_of g1
   have htk : tokenF L 2 ⟨a, 0, 0⟩ = (tkT 2 n, ⟨a + 1, 0, 0⟩) := by unfold tokenF; rw [if_pos ⟨rfl, hp⟩]; simp [g1]
   have hn := names_reads (t := tAr) (by decide) ns (fuelP L) false [] (a + 1) g2 (map_len g2) (fun q => by cases q)
   rw [if_pos hp]
   simp only
   rw [htk]
   simp only
   rw [hn]
   refine ⟨fun b => .mk 0 n false 0 ns b, ?_, fun e => rfl⟩
   simp [tkT]
   omega
 · rw [if_pos rfl] at h
   obtain ⟨g1, g2, g3⟩ := at_drop (by simpa using h : L.drop a = tkNum pr fl bi :: (tAr :: r))
   have hp : kindP L ⟨a, 0, 0⟩ = 3 := kind_of g1
   have htk : tokenF L 3 ⟨a, 0, 0⟩ = (tkNum pr fl bi, ⟨a + 1, 0, 0⟩) := by unfold tokenF; rw [if_pos ⟨rfl, hp⟩]; simp [g1]
   rw [if_neg (by rw [hp]; decide), if_pos hp]
   simp only
   rw [htk]
   exact ⟨_, rfl, fun e => rfl⟩
 · rw [if_neg (by decide), if_neg (by decide)] at h
   obtain ⟨g1, g2, g3⟩ := at_drop (by simpa using h : L.drop a = tkT 1 n :: (tAr :: r))
   have hp : kindP L ⟨a, 0, 0⟩ = 1 := kind_of g1
   have htk : tokenF L 1 ⟨a, 0, 0⟩ = (tkT 1 n, ⟨a + 1, 0, 0⟩) := by unfold tokenF; rw [if_pos ⟨rfl, hp⟩]; simp [g1]
   rw [if_neg (by rw [hp]; decide), if_neg (by rw [hp]; decide)]
   simp only
   rw [htk]
   exact ⟨_, rfl, fun e => rfl⟩
theorem alt_reads {k : Nat} {n : List UInt8} {fl : Bool} {bi : Nat} {ns : List (List UInt8)} {e : TE} (hok : okA k n fl bi ns) (ih : Reading pr L ex e) {t2 : TokV} {r2 : List TokV} (hs : Stops t2) (h : L.drop a = alT pr k n fl bi ns e ++ t2 :: r2) :
 altF L ex ⟨a, 0, 0⟩ = (.mk k n fl bi ns e, ⟨a + (alT pr k n fl bi ns e).length, 0, 0⟩) ∨ (altF L ex ⟨a, 0, 0⟩).2.e = 12 := by
 have h1 : L.drop a = hdT pr k n fl bi ns ++ tAr :: (tkE pr e ++ t2 :: r2) := by rw [h]; unfold alT; simp
 obtain ⟨f, hf, hfe⟩ := altHead_reads hok h1
 have h2 := drop_app h1
 obtain ⟨g1, g2, g3⟩ := at_drop h2
 unfold altF
 simp only
 rw [hf]
 simp only
 rw [need_at g1 rfl]
 rcases ih _ _ _ g2 hs with q | q
 · left
   rw [q, hfe]
   simp [alT, Nat.add_assoc, Nat.add_comm, Nat.add_left_comm]
 · right
   exact q
def tailA (pr : Bool → Nat → List UInt8) (l : List TA) : List TokV := if l.isEmpty then [] else tSe :: tkA pr l
theorem tkA_cons (k : Nat) (n : List UInt8) (fl : Bool) (bi : Nat) (ns : List (List UInt8)) (e : TE) (l : List TA) : tkA pr (.mk k n fl bi ns e :: l) = alT pr k n fl bi ns e ++ tailA pr l := by
 rw [tkA]
 unfold alT hdT tailA
 simp
theorem tailA_cons (b : TA) (l : List TA) : tailA pr (b :: l) = tSe :: tkA pr (b :: l) := rfl
theorem tailA_first (l : List TA) {t : TokV} {r : List TokV} (ht : Stops t) : ∃ t2 r2, tailA pr l ++ t :: r = t2 :: r2 ∧ Stops t2 := by
 cases l with
 | nil => exact ⟨t, r, rfl, ht⟩
 | cons b l => exact ⟨tSe, _, rfl, semi_stops⟩
def okAs (l : List TA) : Prop := ∀ b ∈ l, okA b.kind b.name b.flt b.bits b.names
theorem alts_reads {t : TokV} {r : List TokV} (ht : Stops t) (h59 : ((decide (t.kind = 5) || decide (t.kind = 6)) && decide (t.text = [59])) = false) : ∀ (l : List TA) (n : Nat) (acc : List TA) (a : Nat), okAs l → allA (Reading pr L ex) l → L.drop a = tailA pr l ++ t :: r → l.length < n →
 altsF L ex n acc ⟨a, 0, 0⟩ = (acc ++ l, ⟨a + (tailA pr l).length, 0, 0⟩) ∨ (altsF L ex n acc ⟨a, 0, 0⟩).2.e = 12
 | [], n, acc, a, hok, ih, h, hn => by
  obtain ⟨m, rfl⟩ : ∃ m, n = m + 1 := ⟨n - 1, by simp at hn; omega⟩
  left
  unfold altsF
  rw [if_neg (fun q => by rw [sees_of (at_drop h).1, h59] at q; exact absurd q.2 (by decide))]
  simp [tailA]
 | .mk k x fl bi ns e :: l, n, acc, a, hok, ih, h, hn => by
  obtain ⟨m, rfl⟩ : ∃ m, n = m + 1 := ⟨n - 1, by simp at hn; omega⟩
  have h1 : L.drop a = tSe :: (alT pr k x fl bi ns e ++ (tailA pr l ++ t :: r)) := by rw [h, tailA_cons, tkA_cons]; simp
  obtain ⟨g1, g2, g3⟩ := at_drop h1
  obtain ⟨t2, r2, e1, e2⟩ := tailA_first (pr := pr) l (r := r) ht
  unfold altsF
  rw [if_pos ⟨rfl, by rw [sees_of g1]; rfl⟩]
  have g2' := g2
  rw [e1] at g2'
  rcases alt_reads (k := k) (n := x) (fl := fl) (bi := bi) (ns := ns) (e := e) (hok (.mk k x fl bi ns e) (by simp)) (ih (.mk k x fl bi ns e) (by simp)) e2 g2' with q | q
  · simp only
    rw [q]
    simp only
    have h3 := drop_app g2
    rcases alts_reads ht h59 l m (acc ++ [.mk k x fl bi ns e]) _ (fun b hb => hok b (by simp [hb])) (fun b hb => ih b (by simp [hb])) h3 (by simp at hn; omega) with z | z
    · left
      rw [z, tailA_cons, tkA_cons]
      simp [Nat.add_assoc, Nat.add_comm, Nat.add_left_comm]
    · exact .inr z
  · right
    simp only
    rw [alts_err (by rw [q]; decide)]
    exact q
theorem in_stops : Stops tIn := by unfold Stops; decide
theorem of_stops : Stops tOf := by unfold Stops; decide
theorem rb_stops : Stops tRb := by unfold Stops; decide
theorem tailB_long (l : List TB) : l.length ≤ (tailB pr l).length := by
 induction l with
 | nil => simp
 | cons b l ih =>
  obtain ⟨n, ps, e⟩ := b
  rw [tailB_cons, tkB_cons]
  simp [bdT]
  omega
theorem tailA_long (l : List TA) : l.length ≤ (tailA pr l).length := by
 induction l with
 | nil => simp
 | cons b l ih =>
  obtain ⟨k, n, fl, bi, ns, e⟩ := b
  rw [tailA_cons, tkA_cons]
  simp [alT]
  omega
def Holds12 (ex : PS → TE × PS) : Prop := ∀ s : PS, s.e ≠ 0 → ex s = (zeroE, s)
theorem let_reads {b : TB} {l : List TB} {x : TE} (hx : Holds12 ex) (ihb : allB (Reading pr L ex) (b :: l)) (ih : Reading pr L ex x) {t2 : TokV} {r2 : List TokV} (hs : Stops t2) (h : L.drop a = tLet :: (tkB pr (b :: l) ++ tIn :: (tkE pr x ++ t2 :: r2))) :
 ReadsE L (letF L ex) a (.mk 6 [] false 0 [] [x] (b :: l) []) ((tkB pr (b :: l)).length + (tkE pr x).length + 2) := by
 obtain ⟨n, ps, e⟩ := b
 obtain ⟨g1, g2, g3⟩ := at_drop h
 rw [tkB_cons] at g2 ⊢
 have g2' : L.drop (a + 1) = bdT pr n ps e ++ (tailB pr l ++ tIn :: (tkE pr x ++ t2 :: r2)) := by rw [g2]; simp
 obtain ⟨t3, r3, e1, e2⟩ := tailB_first (pr := pr) l (r := tkE pr x ++ t2 :: r2) in_stops
 have g2'' := g2'
 rw [e1] at g2''
 unfold ReadsE letF
 simp only
 rcases bind_reads (e := e) (ihb (.mk n ps e) (by simp)) e2 g2'' with q | q
 · rw [q]
   simp only
   have h3 := drop_app g2'
   have hlen := drop_len h3
   have htl := tailB_long (pr := pr) l
   rcases binds_reads in_stops (by decide) l (fuelP L) [.mk n ps e] _ (fun b hb => ihb b (by simp [hb])) h3 (by unfold fuelP; simp at hlen; omega) with z | z
   · rw [z]
     simp only
     have h4 := drop_app h3
     obtain ⟨g4, g5, g6⟩ := at_drop h4
     rw [need_at g4 rfl]
     rcases ih _ _ _ g5 hs with y | y
     · left
       rw [y]
       simp
       omega
     · exact .inr y
   · right
     rw [need_err (by rw [z]; decide), hx _ (by rw [z]; decide)]
     exact z
 · right
   rw [binds_err (by rw [q]; decide)]
   simp only
   rw [need_err (by rw [q]; decide), hx _ (by rw [q]; decide)]
   exact q
theorem lam_reads {ps : List (List UInt8)} {x : TE} (hp : ps ≠ []) (ih : Reading pr L ex x) {t2 : TokV} {r2 : List TokV} (hs : Stops t2) (h : L.drop a = tBs :: (ps.map (tkT 1) ++ tAr :: (tkE pr x ++ t2 :: r2))) :
 ReadsE L (lamF L ex) a (.mk 8 [] false 0 ps [x] [] []) (ps.length + (tkE pr x).length + 2) := by
 obtain ⟨g1, g2, g3⟩ := at_drop h
 have hn := names_reads (t := tAr) (by decide) ps (fuelP L) true [] (a + 1) g2 (map_len g2) (fun _ => hp)
 have h2 := at_map g2
 obtain ⟨g4, g5, g6⟩ := at_drop h2
 unfold ReadsE lamF
 simp only
 rw [hn]
 simp only [List.nil_append]
 rw [need_at g4 rfl]
 rcases ih _ _ _ g5 hs with y | y
 · left
   rw [y]
   simp [Nat.add_assoc, Nat.add_comm, Nat.add_left_comm]
 · exact .inr y
theorem alt_hd_first {k : Nat} {n : List UInt8} {fl : Bool} {bi : Nat} {ns : List (List UInt8)} : ∃ t r, hdT pr k n fl bi ns = t :: r ∧ ((decide (t.kind = 5) || decide (t.kind = 6)) && decide (t.text = [125])) = false := by
 unfold hdT
 split
 · exact ⟨_, _, rfl, rfl⟩
 · split
   · exact ⟨_, _, rfl, rfl⟩
   · exact ⟨_, _, rfl, rfl⟩
theorem case_reads {x : TE} {al : List TA} (hx : Holds12 ex) (hok : okAs al) (iha : allA (Reading pr L ex) al) (ih : Reading pr L ex x) {r2 : List TokV} (h : L.drop a = tCase :: (tkE pr x ++ tOf :: tLb :: (tkA pr al ++ tRb :: r2))) :
 ReadsE L (choiceF L ex) a (.mk 7 [] false 0 [] [x] [] al) ((tkE pr x).length + (tkA pr al).length + 4) := by
 obtain ⟨g1, g2, g3⟩ := at_drop h
 unfold ReadsE choiceF
 simp only
 rcases ih _ _ _ g2 of_stops with q | q
 · rw [q]
   simp only
   have h3 := drop_app g2
   obtain ⟨g4, g5, g6⟩ := at_drop h3
   obtain ⟨g7, g8, g9⟩ := at_drop g5
   rw [need_at g4 rfl, need_at g7 rfl]
   cases al with
   | nil =>
    left
    rw [tkA] at g8
    obtain ⟨g10, _, _⟩ := at_drop g8
    rw [if_pos ⟨rfl, by rw [sees_of g10]; rfl⟩, tkA]
    simp
    omega
   | cons b l =>
    obtain ⟨k, n, fl, bi, ns, e⟩ := b
    rw [tkA_cons] at g8 ⊢
    have g8' : L.drop (a + 1 + (tkE pr x).length + 1 + 1) = alT pr k n fl bi ns e ++ (tailA pr l ++ tRb :: r2) := by rw [g8]; simp
    obtain ⟨t3, r3, e1, e2⟩ := tailA_first (pr := pr) l (r := r2) rb_stops
    obtain ⟨t4, r4, e3, e4⟩ := alt_hd_first (pr := pr) (k := k) (n := n) (fl := fl) (bi := bi) (ns := ns)
    have g8f : L.drop (a + 1 + (tkE pr x).length + 1 + 1) = t4 :: (r4 ++ tAr :: (tkE pr e ++ (tailA pr l ++ tRb :: r2))) := by rw [g8', alT, e3]; simp
    rw [if_neg (fun z => by rw [sees_of (at_drop g8f).1, e4] at z; exact absurd z.2 (by decide))]
    have g8'' := g8'
    rw [e1] at g8''
    rcases alt_reads (k := k) (n := n) (fl := fl) (bi := bi) (ns := ns) (e := e) (hok (.mk k n fl bi ns e) (by simp)) (iha (.mk k n fl bi ns e) (by simp)) e2 g8'' with z | z
    · rw [z]
      simp only
      have h5 := drop_app g8'
      have hlen := drop_len h5
      have htl := tailA_long (pr := pr) l
      rcases alts_reads rb_stops (by decide) l (fuelP L) [.mk k n fl bi ns e] _ (fun b hb => hok b (by simp [hb])) (fun b hb => iha b (by simp [hb])) h5 (by unfold fuelP; simp at hlen; omega) with y | y
      · left
        rw [y]
        simp only
        have h6 := drop_app h5
        obtain ⟨g10, _, _⟩ := at_drop h6
        rw [need_at g10 rfl]
        simp
        omega
      · right
        rw [need_err (by rw [y]; decide)]
        exact y
    · right
      rw [alts_err (by rw [z]; decide)]
      simp only
      rw [need_err (by rw [z]; decide)]
      exact z
 · right
   have hne0 : (ex ⟨a + 1, 0, 0⟩).2.e ≠ 0 := by rw [q]; decide
   rw [need_err hne0, need_err hne0]
   rw [if_neg (fun z => by rw [q] at z; exact absurd z.1 (by decide))]
   have hal : (altF L ex (ex ⟨a + 1, 0, 0⟩).2).2 = (ex ⟨a + 1, 0, 0⟩).2 := by
    have hne : (ex ⟨a + 1, 0, 0⟩).2.e ≠ 0 := by rw [q]; decide
    have htok : ∀ k, (tokenF L k (ex ⟨a + 1, 0, 0⟩).2).2 = (ex ⟨a + 1, 0, 0⟩).2 := fun k => by
     unfold tokenF
     rw [if_neg (fun z => hne z.1)]
     unfold faultF
     rw [if_pos hne]
    have hnm : ∀ n acc, (namesF L n false acc (ex ⟨a + 1, 0, 0⟩).2) = (acc, (ex ⟨a + 1, 0, 0⟩).2) := fun n acc => by
     cases n with
     | zero => rfl
     | succ n => unfold namesF; rw [if_neg (fun z => hne z.1)]
    have hah : (altHead L (ex ⟨a + 1, 0, 0⟩).2).2 = (ex ⟨a + 1, 0, 0⟩).2 := by
     unfold altHead
     simp only
     split
     · rw [htok, hnm]
     · split
       · exact htok 3
       · exact htok 1
    unfold altF
    simp only
    rw [hah, need_err hne, hx _ hne]
   rw [hal, alts_err (by rw [q]; decide)]
   simp only
   rw [need_err (by rw [q]; decide)]
   exact q
theorem op_reads {e : TE} {m : Nat} {t : TokV} (h : ReadsE L (rowF L ex) a e m) (hn : L[a + m]? = some t) (ht : t.kind ≠ 4) : ReadsE L (opF L ex) a e m := by
 rcases h with h | h
 · exact .inl (op_row h (.inr (by rw [kind_of hn]; exact ht)))
 · right
   unfold opF
   simp only
   rw [if_neg (fun q => by rw [h] at q; exact absurd q.1 (by decide))]
   exact h
theorem sign_stop (n : List UInt8) : StopA (tkT 4 n) := ⟨by show (4 : Int) ≠ 1; decide, by show (4 : Int) ≠ 2; decide, by show (4 : Int) ≠ 7; decide, by show (4 : Int) ≠ 3; decide, rfl⟩
theorem infix_reads {n : List UInt8} {x y : TE} (hwx : wfE L0 x) (hwy : wfE L0 y) (ihx : Reading pr L ex x) (ihy : Reading pr L ex y) {t2 : TokV} {r2 : List TokV} (hs : Stops t2) (h : L.drop a = parK x (tkE pr x) ++ tkT 4 n :: (parK y (tkE pr y) ++ t2 :: r2)) :
 ReadsE L (opF L ex) a (.mk 5 n false 0 [] [x, y] [] []) ((parK x (tkE pr x)).length + (parK y (tkE pr y)).length + 1) := by
 have h1 := row_single (pr := pr) hwx ihx (sign_stop n) h
 have h2 := drop_app h
 obtain ⟨g1, g2, g3⟩ := at_drop h2
 have hp : kindP L ⟨a + (parK x (tkE pr x)).length, 0, 0⟩ = 4 := kind_of g1
 have htk : tokenF L 4 ⟨a + (parK x (tkE pr x)).length, 0, 0⟩ = (tkT 4 n, ⟨a + (parK x (tkE pr x)).length + 1, 0, 0⟩) := by unfold tokenF; rw [if_pos ⟨rfl, hp⟩]; simp [g1]
 unfold ReadsE opF
 simp only
 rcases h1 with h1 | h1
 · rw [h1]
   simp only
   rw [if_pos ⟨trivial, hp⟩, htk]
   simp only
   rcases row_single (pr := pr) hwy ihy hs.stopA g2 with q | q
   · left
     rw [q]
     simp [tkT]
     omega
   · exact .inr q
 · right
   rw [if_neg (fun q => by rw [h1] at q; exact absurd q.1 (by decide))]
   exact h1
theorem wfB_all : ∀ {l : List TB}, wfB L0 l → ∀ b ∈ l, wfE L0 b.body
 | [], _, b, hb => by cases hb
 | .mk n ps e :: l, h, b, hb => by
  obtain ⟨⟨_, _, h1⟩, h2⟩ := h
  rcases List.mem_cons.1 hb with rfl | q
  · exact h1
  · exact wfB_all h2 b q
theorem wfA_all : ∀ {l : List TA}, wfA L0 l → ∀ b ∈ l, wfE L0 b.body ∧ okA b.kind b.name b.flt b.bits b.names
 | [], _, b, hb => by cases hb
 | .mk k n fl bi ns e :: l, h, b, hb => by
  obtain ⟨⟨h0, h1⟩, h2⟩ := h
  rcases List.mem_cons.1 hb with rfl | q
  · refine ⟨h1, ?_⟩
    rcases h0 with ⟨h0, _, h3, h4, _⟩ | ⟨h0, h3, _, h4⟩ | ⟨h0, _, h3, h4, h5⟩
    · exact .inl ⟨h0, h3, h4⟩
    · exact .inr (.inl ⟨h0, h3, h4⟩)
    · exact .inr (.inr ⟨h0, h3, h4, h5⟩)
  · exact wfA_all h2 b q
theorem step_row {t : TokV} (h : L[a]? = some t) (ht : RowT t) : exprStep L ex ⟨a, 0, 0⟩ = opF L ex ⟨a, 0, 0⟩ :=
 step_op h (row_first ht _ (by decide)) (row_first ht _ (by decide)) (row_first ht _ (by decide))
theorem bare_parK {e : TE} (h : bareE e = true) (t : List TokV) : parK e t = t := by unfold parK; rw [if_pos h]
theorem reads_all (hlow : LowOk L0) : ∀ (d : Nat) (e : TE), wfE L0 e → Reading pr L (exprF L d) e
 | 0, e, hw => fun a t2 r2 h _ => reads_zero hw h
 | d + 1, .mk k n fl bi ps ks bs al, hw => fun a t2 r2 h hs => by
  have ih := reads_all hlow d
  have hx : Holds12 (exprF L d) := fun s hs => exprD_stop hs
  obtain ⟨x, r, f1, f2, f3⟩ := expr_first (pr := pr) hw
  have hf : L.drop a = x :: (r ++ t2 :: r2) := by rw [h, f1]; rfl
  obtain ⟨gx, _, _⟩ := at_drop hf
  have hend := at_drop (drop_app h)
  show ReadsE L (exprStep L (exprF L d)) a _ _
  unfold wfE at hw
  obtain ⟨hsh, hwk, hwb, hwa⟩ := hw
  have hks := fun e he => ih e (wfK_all hwk e he)
  have hk4 : t2.kind ≠ 4 := hs.2.2.2.2.1
  rcases hsh with ⟨rfl, _, rfl, rfl, rfl, rfl, rfl, rfl⟩ | ⟨rfl, _, rfl, rfl, rfl, rfl, rfl⟩ | ⟨rfl, rfl, hn3, rfl, rfl, rfl, rfl⟩ | ⟨rfl, rfl, rfl, rfl, h2, rfl, rfl, rfl⟩ | ⟨rfl, hn, rfl, rfl, rfl, rfl, rfl⟩ | ⟨rfl, rfl, rfl, rfl, h1, hb, rfl, rfl⟩ | ⟨rfl, rfl, rfl, rfl, h1, rfl, rfl⟩ | ⟨rfl, rfl, rfl, rfl, h1, hps, _, rfl, rfl⟩
  · have hw1 : wfE L0 (.mk 1 n false 0 [] [] [] []) := by unfold wfE; exact ⟨.inl ⟨rfl, by assumption, rfl, rfl, rfl, rfl, rfl, rfl⟩, trivial, trivial, trivial⟩
    have hb : bareE (.mk 1 n false 0 [] [] [] []) = true := rfl
    have := row_single (ex := exprF L d) (pr := pr) hw1 (ih _ hw1) hs.stopA (by rw [bare_parK hb]; exact h)
    rw [bare_parK hb] at this
    unfold ReadsE
    rw [step_row gx (f3 (by simp [TE.kind]))]
    exact op_reads this hend.1 hk4
  · have e1 : tkE pr (.mk 2 n false 0 [] ks [] []) = tkT 2 n :: tkK pr ks := by simp [tkE]
    rw [e1] at h hend ⊢
    have := row_con (ex := exprF L d) (pr := pr) (k := 2) (kt := 2) (n := n) (.inl ⟨rfl, rfl⟩) (wfK_all hwk) hks hs.stopA h
    unfold ReadsE
    rw [step_row gx (f3 (by simp [TE.kind]))]
    exact op_reads this hend.1 hk4
  · have hw1 : wfE L0 (.mk 3 [] fl bi [] [] [] []) := by unfold wfE; exact ⟨.inr (.inr (.inl ⟨rfl, rfl, hn3, rfl, rfl, rfl, rfl⟩)), trivial, trivial, trivial⟩
    have hb : bareE (.mk 3 [] fl bi [] [] [] []) = true := rfl
    have := row_single (ex := exprF L d) (pr := pr) hw1 (ih _ hw1) hs.stopA (by rw [bare_parK hb]; exact h)
    rw [bare_parK hb] at this
    unfold ReadsE
    rw [step_row gx (f3 (by simp [TE.kind]))]
    exact op_reads this hend.1 hk4
  · have e1 : tkE pr (.mk 4 [] false 0 [] ks [] []) = tkH pr ks := by simp [tkE]
    rw [e1] at h hend ⊢
    cases ks with
    | nil => simp at h2
    | cons e l =>
     have hl0 : l ≠ [] := fun q => by subst q; simp at h2
     have := row_app (ex := exprF L d) (pr := pr) hl0 (wfK_all hwk) hks hs.stopA h
     unfold ReadsE
     rw [step_row gx (f3 (by simp [TE.kind]))]
     exact op_reads this hend.1 hk4
  · unfold ReadsE
    rw [step_row gx (f3 (by simp [TE.kind]))]
    by_cases hc : lowF n = true ∨ ks.length ≠ 2
    · have e1 : tkE pr (.mk 5 n false 0 [] ks [] []) = tkT 7 n :: tkK pr ks := by simp only [tkE]; rw [if_pos hc]; rfl
      rw [e1] at h hend ⊢
      have := row_con (ex := exprF L d) (pr := pr) (k := 5) (kt := 7) (n := n) (.inr ⟨rfl, rfl⟩) (wfK_all hwk) hks hs.stopA h
      exact op_reads this hend.1 hk4
    · have e1 : tkE pr (.mk 5 n false 0 [] ks [] []) = tkO pr n ks := by simp only [tkE]; rw [if_neg hc]; rfl
      rw [e1] at h ⊢
      obtain ⟨u, v, rfl⟩ : ∃ u v, ks = [u, v] := by
       have hlen : ks.length = 2 := by
        by_cases q : ks.length = 2
        · exact q
        · exact absurd (.inr q) hc
       match ks, hlen with
       | [u, v], _ => exact ⟨u, v, rfl⟩
      have e2 : tkO pr n [u, v] = parK u (tkE pr u) ++ tkT 4 n :: parK v (tkE pr v) := by rw [tkO, tkK, tkK]; simp
      rw [e2] at h ⊢
      have h' : L.drop a = parK u (tkE pr u) ++ tkT 4 n :: (parK v (tkE pr v) ++ t2 :: r2) := by rw [h]; simp
      have := infix_reads (ex := exprF L d) (pr := pr) (wfK_all hwk u (by simp)) (wfK_all hwk v (by simp)) (hks u (by simp)) (hks v (by simp)) hs h'
      have e3 : (parK u (tkE pr u) ++ tkT 4 n :: parK v (tkE pr v)).length = (parK u (tkE pr u)).length + (parK v (tkE pr v)).length + 1 := by simp; omega
      rw [e3]
      exact this
  · obtain ⟨u, rfl⟩ : ∃ u, ks = [u] := by
     match ks, h1 with
     | [u], _ => exact ⟨u, rfl⟩
    have e1 : tkE pr (.mk 6 [] false 0 [] [u] bs []) = tLet :: (tkB pr bs ++ tIn :: tkE pr u) := by simp [tkE, tkX]
    rw [e1] at h ⊢
    have h' : L.drop a = tLet :: (tkB pr bs ++ tIn :: (tkE pr u ++ t2 :: r2)) := by rw [h]; simp
    obtain ⟨g1, _, _⟩ := at_drop h'
    have hst : exprStep L (exprF L d) ⟨a, 0, 0⟩ = letF L (exprF L d) ⟨a, 0, 0⟩ := by
     unfold exprStep
     rw [if_neg (by simp), if_pos (by rw [sees_of g1]; rfl)]
    unfold ReadsE
    rw [hst]
    cases bs with
    | nil => exact absurd rfl hb
    | cons b l =>
     have := let_reads (pr := pr) hx (fun c hc => ih _ (wfB_all hwb c hc)) (hks u (by simp)) hs h'
     have e2 : (tLet :: (tkB pr (b :: l) ++ tIn :: tkE pr u)).length = (tkB pr (b :: l)).length + (tkE pr u).length + 2 := by simp; omega
     rw [e2]
     exact this
  · obtain ⟨u, rfl⟩ : ∃ u, ks = [u] := by
     match ks, h1 with
     | [u], _ => exact ⟨u, rfl⟩
    have e1 : tkE pr (.mk 7 [] false 0 [] [u] [] al) = tCase :: (tkE pr u ++ tOf :: tLb :: (tkA pr al ++ [tRb])) := by simp [tkE, tkX]
    rw [e1] at h ⊢
    have h' : L.drop a = tCase :: (tkE pr u ++ tOf :: tLb :: (tkA pr al ++ tRb :: (t2 :: r2))) := by rw [h]; simp
    obtain ⟨g1, _, _⟩ := at_drop h'
    have hst : exprStep L (exprF L d) ⟨a, 0, 0⟩ = choiceF L (exprF L d) ⟨a, 0, 0⟩ := by
     unfold exprStep
     rw [if_neg (by simp), if_neg (by rw [sees_of g1]; decide), if_pos (by rw [sees_of g1]; rfl)]
    unfold ReadsE
    rw [hst]
    have := case_reads (pr := pr) hx (fun c hc => (wfA_all hwa c hc).2) (fun c hc => ih _ (wfA_all hwa c hc).1) (hks u (by simp)) h'
    have e2 : (tCase :: (tkE pr u ++ tOf :: tLb :: (tkA pr al ++ [tRb]))).length = (tkE pr u).length + (tkA pr al).length + 4 := by simp; omega
    rw [e2]
    exact this
  · obtain ⟨u, rfl⟩ : ∃ u, ks = [u] := by
     match ks, h1 with
     | [u], _ => exact ⟨u, rfl⟩
    have e1 : tkE pr (.mk 8 [] false 0 ps [u] [] []) = tBs :: (ps.map (tkT 1) ++ tAr :: tkE pr u) := by simp [tkE, tkX]
    rw [e1] at h ⊢
    have h' : L.drop a = tBs :: (ps.map (tkT 1) ++ tAr :: (tkE pr u ++ t2 :: r2)) := by rw [h]; simp
    obtain ⟨g1, _, _⟩ := at_drop h'
    have hst : exprStep L (exprF L d) ⟨a, 0, 0⟩ = lamF L (exprF L d) ⟨a, 0, 0⟩ := by
     unfold exprStep
     rw [if_neg (by simp), if_neg (by rw [sees_of g1]; decide), if_neg (by rw [sees_of g1]; decide), if_pos (by rw [sees_of g1]; rfl)]
    unfold ReadsE
    rw [hst]
    have := lam_reads (pr := pr) hps (hks u (by simp)) hs h'
    have e2 : (tBs :: (ps.map (tkT 1) ++ tAr :: tkE pr u)).length = ps.length + (tkE pr u).length + 2 := by simp; omega
    rw [e2]
    exact this
end
-- a token, and what stops it
theorem pre_stop (d : UInt8) : ∀ (c l t : List UInt8), l ≠ [] → (d ∉ c ∨ c = [d]) → c.isPrefixOf (l ++ d :: t) = c.isPrefixOf l := by
 intro c l t hl hc
 rcases hc with h | rfl
 · exact pre_sep d t c l h
 · cases l with
   | nil => exact absurd rfl hl
   | cons x l => simp [List.isPrefixOf]
theorem long_stop (d : UInt8) (t l : List UInt8) (hl : l ≠ []) (cs : List (List UInt8)) (h : ∀ c ∈ cs, d ∉ c ∨ c = [d]) : longF (l ++ d :: t) cs = longF l cs := by
 unfold longF
 generalize ([] : List UInt8) = b
 induction cs generalizing b with
 | nil => rfl
 | cons c cs ih =>
  rw [List.foldl_cons, List.foldl_cons]
  have e : stepL (l ++ d :: t) b c = stepL l b c := by
   unfold stepL
   rw [pre_stop d c l t hl (h c List.mem_cons_self)]
  rw [e]
  exact ih (fun c hc => h c (List.mem_cons_of_mem _ hc)) _
def StopC (d : UInt8) : Prop := d = 32 ∨ d = 41 ∨ d = 59 ∨ d = 125
theorem one_stop {d : UInt8} (hd : StopC d) (l t : List UInt8) (ln : Nat) (hl : l ≠ []) : oneF (l ++ d :: t) ln = oneF l ln := by
 have hw : wordC d = false := by rcases hd with rfl | rfl | rfl | rfl <;> decide
 have h45 : d ≠ 45 := by rcases hd with rfl | rfl | rfl | rfl <;> decide
 have ho : ∀ c ∈ opsL, d ∉ c ∨ c = [d] := by rcases hd with rfl | rfl | rfl | rfl <;> decide
 have hp : ∀ c ∈ punctsL, d ∉ c ∨ c = [d] := by rcases hd with rfl | rfl | rfl | rfl <;> decide
 have hr : ∀ l : List UInt8, runF (l ++ d :: t) = runF l := fun l => tw_sep _ _ hw _ _
 cases l with
 | nil => exact absurd rfl hl
 | cons c r =>
  show oneF (c :: (r ++ d :: t)) ln = oneF (c :: r) ln
  unfold oneF
  simp only
  rw [← List.cons_append, hr, long_stop d _ _ hl _ ho, long_stop d _ _ hl _ hp, hr]
  by_cases h1 : r.head? = some 45
  · rw [if_pos h1, if_pos ((head_sep d h45 r t).2 h1)]
    have h2 : (r ++ d :: t).drop 1 = r.drop 1 ++ d :: t := by
     cases r with
     | nil => simp at h1
     | cons x r => rfl
    rw [h2, hr]
  · rw [if_neg h1, if_neg (fun q => h1 ((head_sep d h45 r t).1 q))]
theorem begins {ln : Nat} {t : TokV} (h : ShapeT ln t) (d : UInt8) (hd : d ≠ 45) (rest : List UInt8) : skipF false (t.text ++ d :: rest) 1 = (t.text ++ d :: rest, 1) := by
 have h0 := shape_stays h [] 1
 have hne : t.text ≠ [] := fun q => by have := shape_again h 1; rw [q] at this; simp [oneF] at this
 cases hx : t.text with
 | nil => exact absurd hx hne
 | cons c r =>
  rw [hx] at h0
  rw [List.cons_append] at h0 ⊢
  unfold skipF at h0 ⊢
  by_cases q1 : c = 45 ∧ (r ++ 32 :: []).head? = some 45
  · rw [if_pos q1] at h0
    have := skipF_len true (r ++ [32]) 1
    rw [h0] at this
    simp at this
    omega
  · rw [if_neg q1] at h0
    rw [if_neg (fun q => q1 ⟨q.1, (head_sep 32 (by decide) r []).2 ((head_sep d hd r rest).1 q.2)⟩)]
    by_cases q2 : c = 10
    · rw [if_pos q2] at h0
      have := congrArg Prod.snd h0
      have h5 := (skipF_line false (r ++ [32]) (1 + 1)).1
      simp only at this
      rw [this] at h5
      exact absurd h5 (by decide)
    · rw [if_neg q2] at h0 ⊢
      by_cases q3 : c = 9 ∨ c = 13 ∨ c = 32
      · rw [if_pos q3] at h0
        have := skipF_len false (r ++ [32]) 1
        rw [h0] at this
        simp at this
        omega
      · rw [if_neg q3]
-- tokens of a text, or too many
def Lq (l : List UInt8) (T : List TokV) : Prop := ∀ (f : Nat) (acc : List TokV), T.length < f → acc.length ≤ 4096 → lexG f acc l 1 = if acc.length + T.length ≤ 4096 then ⟨acc ++ T, 0, 0⟩ else ⟨[], 2, 1⟩
theorem Lq.nil : Lq [] [] := fun f acc hf ha => by
 obtain ⟨g, rfl⟩ : ∃ g, f = g + 1 := ⟨f - 1, by simp at hf; omega⟩
 rw [lexG_end, if_pos (by simpa using ha)]
 simp
theorem Lq.cons {l r : List UInt8} {t : TokV} {T : List TokV} (hl : l ≠ []) (h1 : oneF l 1 = (t, 0)) (hr : skipF false (l.drop t.text.length) 1 = (r, 1)) (h : Lq r T) : Lq l (t :: T) := fun f acc hf ha => by
 obtain ⟨g, rfl⟩ : ∃ g, f = g + 1 := ⟨f - 1, by omega⟩
 by_cases hfull : acc.length = 4096
 · rw [lexG_full hl (by rw [h1]) hfull, if_neg (by simp; omega)]
 · rw [lexG_more hl (by rw [h1]) hfull, h1]
   simp only
   rw [hr]
   simp only
   rw [h g _ (by simp at hf; omega) (by simp; omega)]
   by_cases q : acc.length + (t :: T).length ≤ 4096
   · rw [if_pos q, if_pos (by simp at q ⊢; omega)]
     simp
   · rw [if_neg q, if_neg (by simp at q ⊢; omega)]
def Tq (tl : List UInt8) (TT : List TokV) : Prop := ∃ d r rr, tl = d :: r ∧ StopC d ∧ skipF false tl 1 = (rr, 1) ∧ Lq rr TT
def Bk (x : List UInt8) (T : List TokV) : Prop := T.length ≤ x.length ∧ ∀ tl TT, Tq tl TT → Lq (x ++ tl) (T ++ TT) ∧ skipF false (x ++ tl) 1 = (x ++ tl, 1)
theorem tq_end : Tq [59] [tSe] := ⟨59, [], [59], rfl, .inr (.inr (.inl rfl)), skipD_stay [] (by decide), Lq.cons (by simp) (oneD_semi []) skipD_end Lq.nil⟩
theorem tq_blank {x : List UInt8} {T : List TokV} (h : Bk x T) {tl : List UInt8} {TT : List TokV} (ht : Tq tl TT) : Tq (32 :: (x ++ tl)) (T ++ TT) :=
 ⟨32, _, x ++ tl, rfl, .inl rfl, (skipD_blank _).trans (h.2 tl TT ht).2, (h.2 tl TT ht).1⟩
theorem tq_shut {tl : List UInt8} {TT : List TokV} (ht : Tq tl TT) : Tq (41 :: tl) (tRp :: TT) := by
 obtain ⟨d, r, rr, rfl, e2, e3, e4⟩ := ht
 exact ⟨41, _, 41 :: d :: r, rfl, .inr (.inl rfl), skipD_stay _ (by decide), Lq.cons (r := rr) (by simp) (oneD_shut _) e3 e4⟩
theorem tq_semi {tl : List UInt8} {TT : List TokV} (ht : Tq tl TT) : Tq (59 :: tl) (tSe :: TT) := by
 obtain ⟨d, r, rr, rfl, e2, e3, e4⟩ := ht
 exact ⟨59, _, 59 :: d :: r, rfl, .inr (.inr (.inl rfl)), skipD_stay _ (by decide), Lq.cons (r := rr) (by simp) (oneD_semi _) e3 e4⟩
theorem tq_brace {tl : List UInt8} {TT : List TokV} (ht : Tq tl TT) : Tq (125 :: tl) (tRb :: TT) := by
 obtain ⟨d, r, rr, rfl, e2, e3, e4⟩ := ht
 exact ⟨125, _, 125 :: d :: r, rfl, .inr (.inr (.inr rfl)), skipD_stay _ (by decide), Lq.cons (r := rr) (t := tRb) (by simp) rfl e3 e4⟩
theorem bk_of {x : List UInt8} {t : TokV} (h : oneF x 1 = (t, 0)) (hx : t.text = x) : Bk x [t] := by
 have hs := one_shape x 1 (by rw [h])
 rw [h] at hs
 have hne : x ≠ [] := fun q => by subst q; simp [oneF] at h
 refine ⟨by have := List.length_pos_iff.2 hne; simp; omega, fun tl TT ht => ?_⟩
 obtain ⟨d, r, rr, rfl, e2, e3, e4⟩ := ht
 have h45 : d ≠ 45 := by rcases e2 with rfl | rfl | rfl | rfl <;> decide
 have hb := begins hs d h45 r
 simp only at hb
 rw [hx] at hb
 refine ⟨Lq.cons (r := rr) (by simp) ((one_stop e2 x r 1 hne).trans h) ?_ e4, hb⟩
 rw [hx, List.drop_left' rfl]
 exact e3
theorem bk_tok {t : TokV} (h : GoodT t) : Bk t.text [firstL t] := by
 obtain ⟨ln, hs⟩ := h
 exact bk_of (t := firstL t) (shape_again hs 1) rfl
theorem bk_seq {x y : List UInt8} {T U : List TokV} (h : Bk x T) (g : Bk y U) : Bk (x ++ 32 :: y) (T ++ U) := by
 refine ⟨by have := h.1; have := g.1; simp; omega, fun tl TT ht => ?_⟩
 have := h.2 _ _ (tq_blank g ht)
 simpa using this
theorem bk_semi {x y : List UInt8} {T U : List TokV} (h : Bk x T) (g : Bk y U) : Bk (x ++ 59 :: 32 :: y) (T ++ tSe :: U) := by
 refine ⟨by have := h.1; have := g.1; simp; omega, fun tl TT ht => ?_⟩
 have := h.2 _ _ (tq_semi (tq_blank g ht))
 simpa using this
theorem bk_par {x : List UInt8} {T : List TokV} (h : Bk x T) : Bk (40 :: (x ++ [41])) (tLp :: (T ++ [tRp])) := by
 refine ⟨by have := h.1; simp; omega, fun tl TT ht => ?_⟩
 have := h.2 _ _ (tq_shut ht)
 have e1 : (40 :: (x ++ [41])) ++ tl = 40 :: (x ++ 41 :: tl) := by simp
 have e2 : (tLp :: (T ++ [tRp])) ++ TT = tLp :: (T ++ tRp :: TT) := by simp
 rw [e1, e2]
 exact ⟨Lq.cons (r := x ++ 41 :: tl) (by simp) (oneD_open _) this.2 this.1, skipD_stay _ (by decide)⟩
theorem bk_lam {x : List UInt8} {T : List TokV} (h : Bk x T) : Bk (92 :: x) (tBs :: T) := by
 refine ⟨by have := h.1; simp; omega, fun tl TT ht => ?_⟩
 have := h.2 _ _ ht
 rw [List.cons_append, List.cons_append]
 exact ⟨Lq.cons (r := x ++ tl) (t := tBs) (by simp) rfl this.2 this.1, skipD_stay _ (by decide)⟩
theorem bk_brace {x : List UInt8} {T : List TokV} (h : Bk x T) : Bk (123 :: (x ++ [125])) (tLb :: (T ++ [tRb])) := by
 refine ⟨by have := h.1; simp; omega, fun tl TT ht => ?_⟩
 have := h.2 _ _ (tq_brace ht)
 have e1 : (123 :: (x ++ [125])) ++ tl = 123 :: (x ++ 125 :: tl) := by simp
 have e2 : (tLb :: (T ++ [tRb])) ++ TT = tLb :: (T ++ tRb :: TT) := by simp
 rw [e1, e2]
 exact ⟨Lq.cons (r := x ++ 125 :: tl) (t := tLb) (by simp) rfl this.2 this.1, skipD_stay _ (by decide)⟩
theorem bk_brace0 : Bk [123, 125] [tLb, tRb] := by
 refine ⟨by simp, fun tl TT ht => ?_⟩
 have h0 := tq_brace ht
 obtain ⟨d, r, rr, e1, e2, e3, e4⟩ := h0
 have h1 : skipF false (125 :: tl) 1 = (125 :: tl, 1) := skipD_stay _ (by decide)
 have h2 : rr = 125 :: tl := by rw [h1] at e3; exact (congrArg Prod.fst e3).symm
 subst h2
 exact ⟨Lq.cons (r := 125 :: tl) (t := tLb) (by simp) rfl h1 e4, skipD_stay _ (by decide)⟩
theorem words_nilO : wordsF [] = [] := rfl
theorem bk_words : ∀ (ps : List (List UInt8 × List TokV)) (x : List UInt8) (T : List TokV), Bk x T → (∀ p ∈ ps, Bk p.1 p.2) → Bk (x ++ wordsF (ps.map (·.1))) (T ++ (ps.map (·.2)).flatten)
 | [], x, T, h, _ => by simpa [words_nilO] using h
 | p :: ps, x, T, h, hp => by
  have h1 := bk_seq h (hp p (by simp))
  have h2 := bk_words ps _ _ h1 (fun q hq => hp q (by simp [hq]))
  rw [List.map_cons, List.map_cons, words_cons, List.flatten_cons]
  simpa using h2
theorem bk_join {x : List UInt8} {T : List TokV} (ps : List (List UInt8 × List TokV)) (h : Bk x T) (hp : ∀ p ∈ ps, Bk p.1 p.2) : Bk (joinS (x :: ps.map (·.1))) (T ++ (ps.map (·.2)).flatten) := by
 rw [joinS_cons]
 exact bk_words ps x T h hp
-- a source's tokens
section
variable {L0 : List TokV}
theorem good_tk {t : TokV} (h : GoodT t) (hk : t.kind ≠ 3) : firstL t = tkT t.kind t.text := by
 obtain ⟨ln, hs⟩ := h
 cases hs with
 | word c r h hr hl => rfl
 | num c r h hr he => exact absurd rfl hk
 | plus r h hr he => exact absurd rfl hk
 | minus r h hr he => exact absurd rfl hk
 | op x h => rfl
 | punct x h => rfl
theorem bk_isT (hg : ∀ t ∈ L0, GoodT t) {k : Int} {n : List UInt8} (h : isT L0 k n) (hk : k ≠ 3) : Bk n [tkT k n] := by
 obtain ⟨t, ht, rfl, rfl⟩ := h
 have := bk_tok (hg t ht)
 rw [good_tk (hg t ht) hk] at this
 exact this
theorem kindF_cases (n : List UInt8) : kindF n = 5 ∨ (kindF n = 7 ∧ n ∈ backsL) ∨ kindF n = 2 ∨ kindF n = 1 := by
 unfold kindF
 split
 · exact .inl rfl
 · split
   · rename_i h; exact .inr (.inl ⟨rfl, h⟩)
   · split
     · exact .inr (.inr (.inl rfl))
     · exact .inr (.inr (.inr rfl))
theorem low_good (hg : ∀ t ∈ L0, GoodT t) : LowOk L0 := by
 constructor
 · rintro n ⟨t, ht, hk, rfl⟩
   obtain ⟨ln, hs⟩ := hg t ht
   have key : ∀ y ∈ backsL, lowF y = true := by decide
   cases hs with
   | word c r h hr hl =>
    simp only at hk ⊢
    rcases kindF_cases (c :: r) with q | q | q | q
    · rw [q] at hk; exact absurd hk (by decide)
    · exact key _ q.2
    · rw [q] at hk; exact absurd hk (by decide)
    · rw [q] at hk; exact absurd hk (by decide)
   | num c r h hr he => exact absurd hk (by show ¬ (3 : Int) = 7; decide)
   | plus r h hr he => exact absurd hk (by show ¬ (3 : Int) = 7; decide)
   | minus r h hr he => exact absurd hk (by show ¬ (3 : Int) = 7; decide)
   | op x h => exact absurd hk (by show ¬ (4 : Int) = 7; decide)
   | punct x h => exact absurd hk (by show ¬ (6 : Int) = 7; decide)
 · rintro n ⟨t, ht, hk, rfl⟩
   obtain ⟨ln, hs⟩ := hg t ht
   have key : ∀ y ∈ opsL, lowF y = false := by decide
   cases hs with
   | word c r h hr hl =>
    simp only at hk
    rcases kindF_cases (c :: r) with q | q | q | q
    · rw [q] at hk; exact absurd hk (by decide)
    · rw [q.1] at hk; exact absurd hk (by decide)
    · rw [q] at hk; exact absurd hk (by decide)
    · rw [q] at hk; exact absurd hk (by decide)
   | num c r h hr he => exact absurd hk (by show ¬ (3 : Int) = 4; decide)
   | plus r h hr he => exact absurd hk (by show ¬ (3 : Int) = 4; decide)
   | minus r h hr he => exact absurd hk (by show ¬ (3 : Int) = 4; decide)
   | op x h => exact key _ h
   | punct x h => exact absurd hk (by show ¬ (6 : Int) = 4; decide)
theorem bk_num {fl : Bool} {bi : Nat} (h : bi < 18446744073709551616) : Bk (numT (prF fl bi)) [tkNum prF fl bi] := by
 have he : prF fl bi = printN fl bi := by
  unfold prF printN
  cases fl
  · rfl
  · rw [if_pos rfl, if_pos rfl, Nat.mod_eq_of_lt h]
 have hs : numT (prF fl bi) = srcN fl bi := by unfold numT srcN; rw [he]
 have h1 := shape_again (num_shape fl bi h).1 1
 rw [← hs] at h1
 exact bk_of h1 rfl
-- the texts of lists
theorem tkK_map : ∀ l : List TE, tkK prF l = (l.map (fun e => parK e (tkE prF e))).flatten
 | [] => by rw [tkK]; rfl
 | e :: l => by rw [tkK, tkK_map l]; rfl
def BkE (e : TE) : Prop := Bk (swE prF e) (tkE prF e)
theorem bk_atom {e : TE} (h : BkE e) : Bk (atomT e (swE prF e)) (parK e (tkE prF e)) := by
 unfold atomT parK
 split
 · exact h
 · exact bk_par h
def kidP (e : TE) : List UInt8 × List TokV := (atomT e (swE prF e), parK e (tkE prF e))
theorem kids_fst (ks : List TE) : (ks.map kidP).map (·.1) = swK prF ks := by
 rw [swK_map, List.map_map]; rfl
theorem kids_snd (ks : List TE) : ((ks.map kidP).map (·.2)).flatten = tkK prF ks := by
 rw [tkK_map, List.map_map]; rfl
theorem kids_bk {ks : List TE} (h : ∀ e ∈ ks, BkE e) : ∀ p ∈ ks.map kidP, Bk p.1 p.2 := by
 intro p hp
 obtain ⟨e, he, rfl⟩ := List.mem_map.1 hp
 exact bk_atom (h e he)
theorem bk_con {k : Int} {n : List UInt8} (hn : Bk n [tkT k n]) {ks : List TE} (h : ∀ e ∈ ks, BkE e) : Bk (joinS (n :: swK prF ks)) (tkT k n :: tkK prF ks) := by
 have := bk_join (ks.map kidP) hn (kids_bk h)
 rw [kids_fst, kids_snd] at this
 exact this
theorem bk_app {e : TE} {l : List TE} (he : BkE e) (h : ∀ x ∈ l, BkE x) : Bk (joinS (headF (e :: l) (swK prF (e :: l)))) (tkH prF (e :: l)) := by
 have hh : Bk (if nakedE e = true then parF (atomT e (swE prF e)) else atomT e (swE prF e)) (if nakedE e = true then tLp :: (tkE prF e ++ [tRp]) else parK e (tkE prF e)) := by
  split
  · rename_i hn
    have hb := naked_bare hn
    have : atomT e (swE prF e) = swE prF e := by unfold atomT; rw [if_pos hb]
    rw [this]
    exact bk_par he
  · exact bk_atom he
 have := bk_join (l.map kidP) hh (kids_bk h)
 rw [kids_fst, kids_snd] at this
 rw [tkH, swK]
 exact this
theorem bk_infix (hg : ∀ t ∈ L0, GoodT t) {n : List UInt8} (hn : Bk n [tkT 4 n]) {u v : TE} (hu : BkE u) (hv : BkE v) : Bk (joinS [atomT u (swE prF u), n, atomT v (swE prF v)]) (parK u (tkE prF u) ++ tkT 4 n :: parK v (tkE prF v)) := by
 have := bk_join [(n, [tkT 4 n]), kidP v] (bk_atom hu) (fun p hp => by
  rcases List.mem_cons.1 hp with rfl | hp
  · exact hn
  · obtain rfl : p = kidP v := by simpa using hp
    exact bk_atom hv)
 simpa [kidP] using this
def nameP (n : List UInt8) : List UInt8 × List TokV := (n, [tkT 1 n])
theorem names_fst (ps : List (List UInt8)) : (ps.map nameP).map (·.1) = ps := by
 rw [List.map_map]
 have : ((fun x : List UInt8 × List TokV => x.1) ∘ nameP) = id := rfl
 rw [this, List.map_id]
theorem names_snd : ∀ ps : List (List UInt8), ((ps.map nameP).map (·.2)).flatten = ps.map (tkT 1)
 | [] => rfl
 | n :: ps => by
  have := names_snd ps
  rw [List.map_cons, List.map_cons, List.flatten_cons, this]
  rfl
theorem names_bk (hg : ∀ t ∈ L0, GoodT t) {ps : List (List UInt8)} (h : ∀ x ∈ ps, isT L0 1 x) : ∀ p ∈ ps.map nameP, Bk p.1 p.2 := by
 intro p hp
 obtain ⟨n, hn, rfl⟩ := List.mem_map.1 hp
 exact bk_isT hg (h n hn) (by decide)
theorem bk_eq : Bk [61] [tEq] := bk_of rfl rfl
theorem bk_ar : Bk [45, 62] [tAr] := bk_of rfl rfl
theorem bk_let : Bk [108, 101, 116] [tLet] := bk_of rfl rfl
theorem bk_in : Bk [105, 110] [tIn] := bk_of rfl rfl
theorem bk_case : Bk [99, 97, 115, 101] [tCase] := bk_of rfl rfl
theorem bk_word_of : Bk [111, 102] [tOf] := bk_of rfl rfl
theorem bk_row (hg : ∀ t ∈ L0, GoodT t) {x : List UInt8} {T : List TokV} (hx : Bk x T) {ps : List (List UInt8)} (h : ∀ y ∈ ps, isT L0 1 y) {s : List UInt8} {t : TokV} (hs : Bk s [t]) {e : TE} (he : BkE e) :
 Bk (joinS (x :: (ps ++ [s, swE prF e]))) (T ++ (ps.map (tkT 1) ++ t :: tkE prF e)) := by
 have := bk_join (ps.map nameP ++ [(s, [t]), (swE prF e, tkE prF e)]) hx (fun p hp => by
  rcases List.mem_append.1 hp with hp | hp
  · exact names_bk hg h p hp
  · rcases List.mem_cons.1 hp with rfl | hp
    · exact hs
    · obtain rfl : p = (swE prF e, tkE prF e) := by simpa using hp
      exact he)
 rw [List.map_append, List.map_append, names_fst, List.flatten_append, names_snd] at this
 simpa using this
theorem bk_bind (hg : ∀ t ∈ L0, GoodT t) {n : List UInt8} {ps : List (List UInt8)} {e : TE} (hn : isT L0 1 n) (h : ∀ y ∈ ps, isT L0 1 y) (he : BkE e) : Bk (joinS (n :: (ps ++ [[61], swE prF e]))) (bdT prF n ps e) :=
 bk_row hg (bk_isT hg hn (by decide)) h bk_eq he
theorem joinR_cons2 (x y : List UInt8) (l : List (List UInt8)) : joinR (x :: y :: l) = x ++ 59 :: 32 :: joinR (y :: l) := by
 unfold joinR
 rw [Lib.join_cons, Lib.join_cons]
 unfold Lib.joinTail
 simp
theorem joinR_one (x : List UInt8) : joinR [x] = x := Lib.join_one x [59, 32]
theorem bk_binds (hg : ∀ t ∈ L0, GoodT t) : ∀ l : List TB, wfB L0 l → (∀ b ∈ l, BkE b.body) → l ≠ [] → Bk (joinR (swB prF l)) (tkB prF l)
 | [], _, _, hne => absurd rfl hne
 | [.mk n ps e], hw, hb, _ => by
  have := bk_bind (e := e) hg hw.1.1 hw.1.2.1 (hb (.mk n ps e) (by simp))
  rw [swB, swB, joinR_one, tkB_cons]
  simpa [tailB] using this
 | .mk n ps e :: b :: l, hw, hb, _ => by
  have h1 := bk_bind (e := e) hg hw.1.1 hw.1.2.1 (hb (.mk n ps e) (by simp))
  have h2 := bk_binds hg (b :: l) hw.2 (fun c hc => hb c (by simp [List.mem_cons.1 hc])) (by simp)
  obtain ⟨n2, ps2, e2⟩ := b
  have h3 := bk_semi h1 h2
  rw [swB, swB, joinR_cons2, tkB_cons, tailB_cons]
  rw [swB] at h3
  exact h3
theorem bk_head (hg : ∀ t ∈ L0, GoodT t) (hlim : ∀ f b, isN L0 f b → b < 18446744073709551616) {k : Nat} {n : List UInt8} {fl : Bool} {bi : Nat} {ns : List (List UInt8)} {e : TE} (he : BkE e)
 (hk : (k = 0 ∧ isT L0 2 n ∧ fl = false ∧ bi = 0 ∧ ∀ x ∈ ns, isT L0 1 x) ∨ (k = 1 ∧ n = [] ∧ isN L0 fl bi ∧ ns = []) ∨ (k = 2 ∧ isT L0 1 n ∧ fl = false ∧ bi = 0 ∧ ns = [])) :
 Bk (joinS ((if k = 1 then [numT (prF fl bi)] else n :: ns) ++ [[45, 62], swE prF e])) (alT prF k n fl bi ns e) := by
 unfold alT hdT
 rcases hk with ⟨rfl, hn, _, _, hns⟩ | ⟨rfl, _, hn, rfl⟩ | ⟨rfl, hn, _, _, rfl⟩
 · have := bk_row hg (bk_isT hg hn (by decide)) hns bk_ar he
   simpa using this
 · have := bk_row (ps := []) hg (bk_num (fl := fl) (hlim _ _ hn)) (fun y hy => by cases hy) bk_ar he
   simpa using this
 · have := bk_row (ps := []) hg (bk_isT hg hn (by decide)) (fun y hy => by cases hy) bk_ar he
   simpa using this
theorem bk_alts (hg : ∀ t ∈ L0, GoodT t) (hlim : ∀ f b, isN L0 f b → b < 18446744073709551616) : ∀ l : List TA, wfA L0 l → (∀ b ∈ l, BkE b.body) → l ≠ [] → Bk (joinR (swA prF l)) (tkA prF l)
 | [], _, _, hne => absurd rfl hne
 | [.mk k n fl bi ns e], hw, hb, _ => by
  have := bk_head (e := e) hg hlim (hb (.mk k n fl bi ns e) (by simp)) hw.1.1
  rw [swA, swA, joinR_one, tkA_cons]
  simpa [tailA] using this
 | .mk k n fl bi ns e :: b :: l, hw, hb, _ => by
  have h1 := bk_head (e := e) hg hlim (hb (.mk k n fl bi ns e) (by simp)) hw.1.1
  have h2 := bk_alts hg hlim (b :: l) hw.2 (fun c hc => hb c (by simp [List.mem_cons.1 hc])) (by simp)
  obtain ⟨k2, n2, fl2, bi2, ns2, e2⟩ := b
  have h3 := bk_semi h1 h2
  rw [swA, swA, joinR_cons2, tkA_cons, tailA_cons]
  rw [swA] at h3
  exact h3
theorem wfE_parts {k : Nat} {n : List UInt8} {fl : Bool} {bi : Nat} {ps : List (List UInt8)} {ks : List TE} {bs : List TB} {al : List TA} (hw : wfE L0 (.mk k n fl bi ps ks bs al)) : wfK L0 ks ∧ wfB L0 bs ∧ wfA L0 al := by
 unfold wfE at hw
 exact hw.2
theorem swE_step (hg : ∀ t ∈ L0, GoodT t) (hlim : ∀ f b, isN L0 f b → b < 18446744073709551616) {k : Nat} {n : List UInt8} {fl : Bool} {bi : Nat} {ps : List (List UInt8)} {ks : List TE} {bs : List TB} {al : List TA} (hw : wfE L0 (.mk k n fl bi ps ks bs al)) (hks : ∀ e ∈ ks, BkE e) (hbs : ∀ b ∈ bs, BkE b.body) (hal : ∀ b ∈ al, BkE b.body) : BkE (.mk k n fl bi ps ks bs al) := by
 unfold wfE at hw
 obtain ⟨hsh, hwk, hwb, hwa⟩ := hw
 have hlow := low_good hg
 unfold BkE
 rcases hsh with ⟨rfl, hn, rfl, rfl, rfl, rfl, rfl, rfl⟩ | ⟨rfl, hn, rfl, rfl, rfl, rfl, rfl⟩ | ⟨rfl, rfl, hn3, rfl, rfl, rfl, rfl⟩ | ⟨rfl, rfl, rfl, rfl, h2, rfl, rfl, rfl⟩ | ⟨rfl, hn, rfl, rfl, rfl, rfl, rfl⟩ | ⟨rfl, rfl, rfl, rfl, h1, hb, rfl, rfl⟩ | ⟨rfl, rfl, rfl, rfl, h1, rfl, rfl⟩ | ⟨rfl, rfl, rfl, rfl, h1, hps, hpn, rfl, rfl⟩
 · rw [show swE prF (.mk 1 n false 0 [] [] [] []) = n by simp [swE], show tkE prF (.mk 1 n false 0 [] [] [] []) = [tkT 1 n] by simp [tkE]]
   exact bk_isT hg hn (by decide)
 · rw [show swE prF (.mk 2 n false 0 [] ks [] []) = joinS (n :: swK prF ks) by simp [swE], show tkE prF (.mk 2 n false 0 [] ks [] []) = tkT 2 n :: tkK prF ks by simp [tkE]]
   exact bk_con (bk_isT hg hn (by decide)) hks
 · rw [show swE prF (.mk 3 [] fl bi [] [] [] []) = numT (prF fl bi) by simp [swE], show tkE prF (.mk 3 [] fl bi [] [] [] []) = [tkNum prF fl bi] by simp [tkE]]
   exact bk_num (hlim _ _ hn3)
 · rw [show swE prF (.mk 4 [] false 0 [] ks [] []) = joinS (headF ks (swK prF ks)) by simp [swE], show tkE prF (.mk 4 [] false 0 [] ks [] []) = tkH prF ks by simp [tkE]]
   cases ks with
   | nil => simp at h2
   | cons e l => exact bk_app (hks e (by simp)) (fun x hx => hks x (by simp [hx]))
 · by_cases hc : lowF n = true ∨ ks.length ≠ 2
   · have h7 : isT L0 7 n := by
      rcases hn with h | ⟨h, h2⟩
      · exact h
      · rcases hc with q | q
        · rw [hlow.2 n h] at q; exact absurd q (by decide)
        · exact absurd h2 q
     rw [show swE prF (.mk 5 n false 0 [] ks [] []) = joinS (n :: swK prF ks) by simp only [swE]; rw [if_pos hc]; rfl, show tkE prF (.mk 5 n false 0 [] ks [] []) = tkT 7 n :: tkK prF ks by simp only [tkE]; rw [if_pos hc]; rfl]
     exact bk_con (bk_isT hg h7 (by decide)) hks
   · have h4 : isT L0 4 n := by
      rcases hn with h | ⟨h, h2⟩
      · exact absurd (.inl (hlow.1 n h)) hc
      · exact h
     obtain ⟨u, v, rfl⟩ : ∃ u v, ks = [u, v] := by
      have hlen : ks.length = 2 := by
       by_cases q : ks.length = 2
       · exact q
       · exact absurd (.inr q) hc
      match ks, hlen with
      | [u, v], _ => exact ⟨u, v, rfl⟩
     have := bk_infix hg (bk_isT hg h4 (by decide)) (hks u (by simp)) (hks v (by simp))
     rw [show swE prF (.mk 5 n false 0 [] [u, v] [] []) = joinS [atomT u (swE prF u), n, atomT v (swE prF v)] by simp only [swE]; rw [if_neg hc]; rfl, show tkE prF (.mk 5 n false 0 [] [u, v] [] []) = parK u (tkE prF u) ++ tkT 4 n :: parK v (tkE prF v) by simp only [tkE]; rw [if_neg hc, tkO]; simp [tkK]]
     exact this
 · obtain ⟨u, rfl⟩ : ∃ u, ks = [u] := by
    match ks, h1 with
    | [u], _ => exact ⟨u, rfl⟩
   rw [show swE prF (.mk 6 [] false 0 [] [u] bs []) = joinS [[108, 101, 116], joinR (swB prF bs), [105, 110], swE prF u] by simp [swE, swX], show tkE prF (.mk 6 [] false 0 [] [u] bs []) = tLet :: (tkB prF bs ++ tIn :: tkE prF u) by simp [tkE, tkX]]
   have := bk_join [(joinR (swB prF bs), tkB prF bs), ([105, 110], [tIn]), (swE prF u, tkE prF u)] bk_let (fun p hp => by
    simp only [List.mem_cons, List.not_mem_nil, or_false] at hp
    rcases hp with rfl | rfl | rfl
    · exact bk_binds hg bs hwb hbs hb
    · exact bk_in
    · exact hks u (by simp))
   simpa using this
 · obtain ⟨u, rfl⟩ : ∃ u, ks = [u] := by
    match ks, h1 with
    | [u], _ => exact ⟨u, rfl⟩
   rw [show swE prF (.mk 7 [] false 0 [] [u] [] al) = joinS [[99, 97, 115, 101], swE prF u, [111, 102], [123] ++ joinR (swA prF al) ++ [125]] by simp [swE, swX], show tkE prF (.mk 7 [] false 0 [] [u] [] al) = tCase :: (tkE prF u ++ tOf :: tLb :: (tkA prF al ++ [tRb])) by simp [tkE, tkX]]
   have hbr : Bk ([123] ++ joinR (swA prF al) ++ [125]) (tLb :: (tkA prF al ++ [tRb])) := by
    cases al with
    | nil =>
     rw [swA, tkA]
     exact bk_brace0
    | cons b l =>
     have := bk_brace (bk_alts hg hlim (b :: l) hwa hal (by simp))
     simpa using this
   have := bk_join [(swE prF u, tkE prF u), ([111, 102], [tOf]), ([123] ++ joinR (swA prF al) ++ [125], tLb :: (tkA prF al ++ [tRb]))] bk_case (fun p hp => by
    simp only [List.mem_cons, List.not_mem_nil, or_false] at hp
    rcases hp with rfl | rfl | rfl
    · exact hks u (by simp)
    · exact bk_word_of
    · exact hbr)
   simpa using this
 · obtain ⟨u, rfl⟩ : ∃ u, ks = [u] := by
    match ks, h1 with
    | [u], _ => exact ⟨u, rfl⟩
   rw [show swE prF (.mk 8 [] false 0 ps [u] [] []) = [92] ++ joinS (ps ++ [[45, 62], swE prF u]) by simp [swE, swX], show tkE prF (.mk 8 [] false 0 ps [u] [] []) = tBs :: (ps.map (tkT 1) ++ tAr :: tkE prF u) by simp [tkE, tkX]]
   cases ps with
   | nil => exact absurd rfl hps
   | cons p ps =>
    have := bk_lam (bk_row (ps := ps) hg (bk_isT hg (hpn p (by simp)) (by decide)) (fun y hy => hpn y (by simp [hy])) bk_ar (hks u (by simp)))
    simpa using this
mutual
theorem swE_bk (hg : ∀ t ∈ L0, GoodT t) (hlim : ∀ f b, isN L0 f b → b < 18446744073709551616) : ∀ e : TE, wfE L0 e → BkE e
 | .mk k n fl bi ps ks bs al, hw => swE_step hg hlim hw (swK_bk hg hlim ks (wfE_parts hw).1) (swB_bk hg hlim bs (wfE_parts hw).2.1) (swA_bk hg hlim al (wfE_parts hw).2.2)
theorem swK_bk (hg : ∀ t ∈ L0, GoodT t) (hlim : ∀ f b, isN L0 f b → b < 18446744073709551616) : ∀ ks : List TE, wfK L0 ks → ∀ e ∈ ks, BkE e
 | [], _ => fun e he => by cases he
 | x :: l, hw => fun e he => by
  rcases List.mem_cons.1 he with q | q
  · rw [q]; exact swE_bk hg hlim x hw.1
  · exact swK_bk hg hlim l hw.2 e q
theorem swB_bk (hg : ∀ t ∈ L0, GoodT t) (hlim : ∀ f b, isN L0 f b → b < 18446744073709551616) : ∀ bs : List TB, wfB L0 bs → ∀ b ∈ bs, BkE b.body
 | [], _ => fun e he => by cases he
 | .mk n ps x :: l, hw => fun b hb => by
  rcases List.mem_cons.1 hb with q | q
  · rw [q]; exact swE_bk hg hlim x hw.1.2.2
  · exact swB_bk hg hlim l hw.2 b q
theorem swA_bk (hg : ∀ t ∈ L0, GoodT t) (hlim : ∀ f b, isN L0 f b → b < 18446744073709551616) : ∀ al : List TA, wfA L0 al → ∀ b ∈ al, BkE b.body
 | [], _ => fun e he => by cases he
 | .mk k n fl bi ns x :: l, hw => fun b hb => by
  rcases List.mem_cons.1 hb with q | q
  · rw [q]; exact swE_bk hg hlim x hw.1.2
  · exact swA_bk hg hlim l hw.2 b q
end
end
def nestB (x : List UInt8) : List UInt8 := [102, 32, 61, 32, 40] ++ x ++ [41, 59]
def nestT (T : List TokV) : List TokV := tN 102 :: tEq :: tLp :: (T ++ [tRp, tSe])
theorem bk_f : Bk [102] [tN 102] := bk_of rfl rfl
theorem nest_lex {x : List UInt8} {T : List TokV} (h : Bk x T) : lexF (nestB x) = if (nestT T).length ≤ 4096 then ⟨nestT T, 0, 0⟩ else ⟨[], 2, 1⟩ := by
 have h1 := bk_seq bk_f (bk_seq bk_eq (bk_par h))
 have h2 := h1.2 [59] [tSe] tq_end
 have hlen := h1.1
 have e1 : nestB x = ([102] ++ 32 :: ([61] ++ 32 :: (40 :: (x ++ [41])))) ++ [59] := by simp [nestB]
 have e2 : nestT T = ([tN 102] ++ ([tEq] ++ tLp :: (T ++ [tRp]))) ++ [tSe] := by simp [nestT]
 rw [e1, e2]
 unfold lexF
 rw [h2.2]
 simp only
 rw [h2.1 _ [] (by simp at hlen ⊢; omega) (by simp)]
 simp only [List.nil_append, List.length_nil, Nat.zero_add]
section
variable {L L0 : List TokV} {a : Nat} {pr : Bool → Nat → List UInt8}
theorem paren_reads (hlow : LowOk L0) {d : Nat} {E : TE} (hw : wfE L0 E) {t2 : TokV} {r2 : List TokV} (h : L.drop a = tLp :: (tkE pr E ++ tRp :: t2 :: r2)) (hs : Stops t2) : ReadsE L (exprF L (d + 1)) a E ((tkE pr E).length + 2) := by
 obtain ⟨g1, g2, g3⟩ := at_drop h
 have ih := reads_all (pr := pr) (L := L) hlow d E hw
 have h2 := drop_app g2
 obtain ⟨g4, g5, g6⟩ := at_drop h2
 obtain ⟨g7, g8, g9⟩ := at_drop g5
 have e1 : a + 1 + (tkE pr E).length + 1 = a + ((tkE pr E).length + 2) := by omega
 rw [e1] at g7
 have hr : ReadsE L (rowF L (exprF L d)) a E ((tkE pr E).length + 2) := by
  rcases atoms_par (n := L.length + 1) (acc := []) h (ih _ _ _ g2 rp_stops) with q | q
  · left
    refine row_alone ?_
    rw [fuel_two, q, atoms_stops g7 hs]
    rfl
  · right
    exact row_err (by rw [fuel_two]; exact q)
 show ReadsE L (exprStep L (exprF L d)) _ _ _
 unfold ReadsE
 rw [step_row g1 (.inr (.inr (.inr (.inr rfl))))]
 exact op_reads hr g7 hs.2.2.2.2.1
end
theorem nested_tells (s : List UInt8) {b : TB} (hb : b ∈ (parseF s).1.binds) : parseF (nestB (swE prF b.body)) = (⟨[], [.mk [102] [] b.body]⟩, 0, 0) ∨ ∃ (e : Int) (l : Nat), parseF (nestB (swE prF b.body)) = (⟨[], []⟩, e, l) ∧ (e = 2 ∨ e = 12) := by
 have hw := wfB_all (parse_ok s).1 b hb
 have hg := lexF_good s
 have hlow := low_good hg
 have hbk : BkE b.body := swE_bk hg (fun f b h => isN_bits (lexF_tokS s) h) _ hw
 have hl := nest_lex hbk
 by_cases hc : (nestT (tkE prF b.body)).length ≤ 4096
 · rw [if_pos hc] at hl
   have hp : parseF (nestB (swE prF b.body)) = _ := parse_good (by rw [hl])
   rw [hl] at hp
   simp only at hp
   have hst : Stops tSe := by unfold Stops; decide
   have hd : (nestT (tkE prF b.body)).drop 2 = tLp :: (tkE prF b.body ++ tRp :: tSe :: []) := by simp [nestT]
   rcases paren_reads (d := 199) (pr := prF) hlow hw hd hst with q | q
   · left
     have e2 : nestT (tkE prF b.body) = (tN 102 :: tEq :: tLp :: (tkE prF b.body ++ [tRp])) ++ [tSe] := by simp [nestT]
     have hb2 : (nestT (tkE prF b.body)).drop (2 + ((tkE prF b.body).length + 2)) = [tSe] := by rw [e2, List.drop_left' (by simp; omega)]
     rw [hp, one_bind (nestT (tkE prF b.body)) rfl q hb2]
     rfl
   · right
     obtain ⟨⟨p, e, l⟩, hps⟩ : ∃ x, (exprF (nestT (tkE prF b.body)) 200 ⟨2, 0, 0⟩).2 = x := ⟨_, rfl⟩
     have he : e = 12 := by
      have : (exprF (nestT (tkE prF b.body)) 200 ⟨2, 0, 0⟩).2.e = 12 := q
      rw [hps] at this
      exact this
     subst he
     refine ⟨12, l, ?_, .inr rfl⟩
     rw [hp, one_bad (nestT (tkE prF b.body)) (b := p) (e := 12) (l := l) rfl hps (by decide)]
     rfl
 · rw [if_neg hc] at hl
   right
   refine ⟨2, 1, ?_, .inl rfl⟩
   unfold parseF
   rw [hl]
   rfl
end Go.Proofs.YtlnmicddobgppaaGreatDoor
