/-
  A ring of cells in words: links both ways (no program in sight). No conditions.
-/
import Derived.Test.YtlpdlhmdhlcdlaaKit
namespace Go.Proofs.Ytlpdlhmdhlcdlaa
set_option linter.unusedSimpArgs false
set_option linter.unusedVariables false

/-- One cell behind the other. -/
def lkL (l : List Int) (c d : Nat) : List Int := (l.set (c + 1) (d : Int)).set (d + 2) (c : Int)
theorem lkL_len (l : List Int) (c d : Nat) : (lkL l c d).length = l.length := by simp [lkL]
theorem nth_set (l : List Int) (i j : Nat) (x : Int) (hi : i < l.length) : nth (l.set i x) j = if i = j then x else nth l j := by
  unfold nth
  rw [List.getD_eq_getElem?_getD, List.getD_eq_getElem?_getD, List.getElem?_set]
  by_cases h : i = j
  · rw [if_pos h, if_pos h, if_pos hi]
    rfl
  · rw [if_neg h, if_neg h]
/-- Two cells that share no word, or are one. -/
def Apt (c d : Nat) : Prop := c = d ∨ c + 3 ≤ d ∨ d + 3 ≤ c
theorem lkL_next {l : List Int} {c d x : Nat} (hc : c + 3 ≤ l.length) (hd : d + 3 ≤ l.length) (h : Apt x d) : nth (lkL l c d) (x + 1) = if x = c then (d : Int) else nth l (x + 1) := by
  unfold lkL
  rw [nth_set _ _ _ _ (by rw [List.length_set]; omega), nth_set _ _ _ _ (by omega), if_neg (by unfold Apt at h; omega)]
  by_cases e : x = c
  · rw [if_pos (by omega), if_pos e]
  · rw [if_neg (by omega), if_neg e]
theorem lkL_prev {l : List Int} {c d y : Nat} (hc : c + 3 ≤ l.length) (hd : d + 3 ≤ l.length) (h : Apt y c) : nth (lkL l c d) (y + 2) = if y = d then (c : Int) else nth l (y + 2) := by
  unfold lkL
  rw [nth_set _ _ _ _ (by rw [List.length_set]; omega), nth_set _ _ _ _ (by omega)]
  by_cases e : y = d
  · rw [if_pos (by omega), if_pos e]
  · rw [if_neg (by omega), if_neg e, if_neg (by unfold Apt at h; omega)]
/-- Links along a row. -/
def Ch (l : List Int) : List Nat → Prop
  | c :: d :: r => (nth l (c + 1) = (d : Int) ∧ nth l (d + 2) = (c : Int)) ∧ Ch l (d :: r)
  | _ => True
theorem ch_app {l : List Int} : ∀ {A : List Nat} {c : Nat} {B : List Nat}, Ch l (A ++ c :: B) ↔ Ch l (A ++ [c]) ∧ Ch l (c :: B)
  | [], c, B => by simp [Ch]
  | [a], c, B => by simp [Ch]
  | a :: b :: A, c, B => by
    have ih := ch_app (l := l) (A := b :: A) (c := c) (B := B)
    simp only [List.cons_append, Ch] at ih ⊢
    rw [ih]
    simp only [and_assoc]
/-- Links all around. -/
def Cyc (l : List Int) : List Nat → Prop
  | [] => True
  | c :: r => Ch l (c :: r ++ [c])
theorem cyc_rot1 {l : List Int} {c : Nat} {r : List Nat} : Cyc l (c :: r) ↔ Cyc l (r ++ [c]) := by
  cases r with
  | nil => exact Iff.rfl
  | cons d r =>
    show Ch l (c :: d :: (r ++ [c])) ↔ Ch l (d :: (r ++ [c]) ++ [d])
    have h : d :: (r ++ [c]) ++ [d] = (d :: r) ++ c :: [d] := by simp
    rw [h, ch_app]
    constructor
    · rintro ⟨h1, h2⟩
      exact ⟨by simpa using h2, h1, trivial⟩
    · rintro ⟨h1, h2, _⟩
      exact ⟨h2, by simpa using h1⟩
theorem cyc_rot {l : List Int} : ∀ {A B : List Nat}, Cyc l (A ++ B) ↔ Cyc l (B ++ A)
  | [], B => by simp
  | a :: A, B => by
    rw [List.cons_append, cyc_rot1, List.append_assoc, cyc_rot (A := A) (B := B ++ [a]), List.append_assoc]
    rfl
theorem ch_lk {l : List Int} {c d : Nat} (hc : c + 3 ≤ l.length) (hd : d + 3 ≤ l.length) : ∀ {r : List Nat}, (∀ x ∈ r, Apt x c ∧ Apt x d) → (c ∉ r.dropLast) → (d ∉ r.tail) → Ch l r → Ch (lkL l c d) r
  | [], _, _, _, _ => trivial
  | [x], _, _, _, _ => trivial
  | x :: y :: r, ha, h1, h2, ⟨⟨g1, g2⟩, g3⟩ => by
    simp at h1 h2
    refine ⟨⟨?_, ?_⟩, ch_lk hc hd (fun z hz => ha z (List.mem_cons_of_mem _ hz)) ?_ ?_ g3⟩
    · rw [lkL_next hc hd (ha x (List.mem_cons_self ..)).2, if_neg (fun q => h1.1 q.symm)]; exact g1
    · rw [lkL_prev hc hd (ha y (by simp)).1, if_neg (fun q => h2.1 q.symm)]; exact g2
    · simpa using h1.2
    · simp; exact h2.2
/-- Cells that share no words, and lie in so many. -/
structure CellsIn (n : Nat) (L : List Nat) : Prop where
  pw : L.Pairwise (fun c d => c + 3 ≤ d ∨ d + 3 ≤ c)
  le : ∀ c ∈ L, 1 ≤ c ∧ c + 3 ≤ n
theorem CellsIn.apt {n : Nat} {L : List Nat} (h : CellsIn n L) : ∀ x ∈ L, ∀ y ∈ L, Apt x y := by
  intro x hx y hy
  have := h.pw
  induction L with
  | nil => cases hx
  | cons a L ih =>
    obtain ⟨p1, p2⟩ := List.pairwise_cons.1 this
    rcases List.mem_cons.1 hx with ex | hx'
    · rcases List.mem_cons.1 hy with ey | hy'
      · exact .inl (ex.trans ey.symm)
      · exact .inr (by rw [ex]; exact p1 y hy')
    · rcases List.mem_cons.1 hy with ey | hy'
      · exact .inr (by rw [ey]; exact (p1 x hx').symm)
      · exact ih ⟨p2, fun c hc => h.le c (List.mem_cons_of_mem _ hc)⟩ hx' hy' p2
theorem CellsIn.nodup {n : Nat} {L : List Nat} (h : CellsIn n L) : L.Nodup := h.pw.imp (fun r e => by omega)
theorem CellsIn.perm {n : Nat} {L M : List Nat} (h : CellsIn n L) (p : L.Perm M) : CellsIn n M :=
  ⟨p.pairwise h.pw (fun r => r.symm), fun c hc => h.le c (p.mem_iff.2 hc)⟩
theorem CellsIn.tail {n c : Nat} {r : List Nat} (h : CellsIn n (c :: r)) : CellsIn n r := ⟨(List.pairwise_cons.1 h.pw).2, fun x hx => h.le x (List.mem_cons_of_mem _ hx)⟩
/-- The last and the first of a row that has one. -/
def lastN (L : List Nat) : Nat := L.getLast?.getD 0
def headN (L : List Nat) : Nat := L.head?.getD 0
theorem headN_cons (c : Nat) (r : List Nat) : headN (c :: r) = c := rfl
theorem headN_app (c : Nat) (r s : List Nat) : headN ((c :: r) ++ s) = c := rfl
theorem lastN_snoc (r : List Nat) (c : Nat) : lastN (r ++ [c]) = c := by simp [lastN]
theorem cyc_next {l : List Int} {c : Nat} {r : List Nat} (h : Cyc l (c :: r)) : nth l (c + 1) = (headN (r ++ [c]) : Int) := by
  cases r with
  | nil => exact h.1.1
  | cons d r => exact h.1.1
theorem cyc_prev {l : List Int} {c : Nat} {r : List Nat} (h : Cyc l (c :: r)) : nth l (c + 2) = (lastN (c :: r) : Int) := by
  rcases List.eq_nil_or_concat (c :: r) with e | ⟨A, x, e⟩
  · cases e
  · rw [List.concat_eq_append] at e
    rw [e, lastN_snoc]
    have h' : Ch l ((c :: r) ++ [c]) := h
    rw [e, List.append_assoc] at h'
    exact (ch_app.1 h').2.1.2
theorem cyc_put {l : List Int} {n a c : Nat} {r : List Nat} (hn : l.length = n) (hi : CellsIn n (c :: a :: r)) (h : Cyc l (a :: r)) : Cyc (lkL (lkL l (lastN (a :: r)) c) c a) (c :: a :: r) := by
  have hap := hi.apt
  have hc := (hi.le c (by simp)).2
  have ha := (hi.le a (by simp)).2
  have hnd := hi.nodup
  rcases List.eq_nil_or_concat (a :: r) with e | ⟨A, p, e⟩
  · cases e
  · rw [List.concat_eq_append] at e
    have hpm : p ∈ c :: a :: r := by rw [e]; simp
    have hp := (hi.le p hpm).2
    have hcp : c ≠ p := fun q => by rw [e] at hnd; simp [q] at hnd
    rw [e, lastN_snoc]
    -- the row without its end
    have h1 : Ch l (a :: r) := by
      have h' : Ch l ((a :: r) ++ [a]) := h
      cases r with
      | nil => trivial
      | cons d r =>
        rcases List.eq_nil_or_concat (d :: r) with e2 | ⟨B, q, e2⟩
        · cases e2
        · rw [List.concat_eq_append] at e2
          rw [show (a :: d :: r) ++ [a] = (a :: B) ++ q :: [a] by rw [e2]; simp] at h'
          have := (ch_app.1 h').1
          rw [e2]
          simpa using this
    have h2 : Ch (lkL l p c) (a :: r) := ch_lk (by omega) (by omega) (fun x hx => ⟨hap x (List.mem_cons_of_mem _ hx) p hpm, hap x (List.mem_cons_of_mem _ hx) c (by simp)⟩)
      (by rw [e, List.dropLast_concat]; intro q; rw [e] at hnd; have h5 := (List.nodup_cons.1 hnd).2; rw [List.nodup_append] at h5; exact h5.2.2 p q p (by simp) rfl) (by simp only [List.tail_cons]; intro q; exact (List.nodup_cons.1 hnd).1 (List.mem_cons_of_mem _ q)) h1
    have h3 : Ch (lkL (lkL l p c) c a) (a :: r) := ch_lk (by rw [lkL_len]; omega) (by rw [lkL_len]; omega) (fun x hx => ⟨hap x (List.mem_cons_of_mem _ hx) c (by simp), hap x (List.mem_cons_of_mem _ hx) a (by simp)⟩)
      (fun q => (List.nodup_cons.1 hnd).1 ((List.dropLast_sublist _).subset q)) (by simp only [List.tail_cons]; intro q; exact (List.nodup_cons.1 (List.nodup_cons.1 hnd).2).1 q) h2
    rw [e] at h3
    show Ch _ (c :: (A ++ [p]) ++ [c])
    have hsplit : c :: (A ++ [p]) ++ [c] = (c :: A) ++ p :: [c] := by simp
    rw [hsplit, ch_app]
    refine ⟨?_, ⟨⟨?_, ?_⟩, trivial⟩⟩
    · -- c, then the row
      rw [List.cons_append]
      cases hA : A ++ [p] with
      | nil => simp at hA
      | cons x s =>
        have hx : x = a := by rw [← e] at hA; injection hA with q _; exact q.symm
        subst hx
        rw [hA] at h3
        refine ⟨⟨?_, ?_⟩, h3⟩
        · rw [lkL_next (by rw [lkL_len]; omega) (by rw [lkL_len]; omega) (hap c (by simp) x (by simp)), if_pos rfl]
        · rw [lkL_prev (by rw [lkL_len]; omega) (by rw [lkL_len]; omega) (hap x (by simp) c (by simp)), if_pos rfl]
    · rw [lkL_next (by rw [lkL_len]; omega) (by rw [lkL_len]; omega) (hap p hpm a (by simp)), if_neg (fun q => hcp q.symm), lkL_next (by omega) (by omega) (hap p hpm c (by simp)), if_pos rfl]
    · rw [lkL_prev (by rw [lkL_len]; omega) (by rw [lkL_len]; omega) (hap c (by simp) c (by simp)), if_neg (fun q => by rw [q] at hnd; simp at hnd), lkL_prev (by omega) (by omega) (hap c (by simp) p hpm), if_pos rfl]
theorem cyc_one {l : List Int} {c : Nat} (hc : c + 3 ≤ l.length) : Cyc (lkL l c c) [c] :=
  ⟨⟨by rw [lkL_next hc hc (.inl rfl), if_pos rfl], by rw [lkL_prev hc hc (.inl rfl), if_pos rfl]⟩, trivial⟩
theorem cyc_cut {l : List Int} {n c : Nat} {r : List Nat} (hn : l.length = n) (hi : CellsIn n (c :: r)) (h : Cyc l (c :: r)) (hr : r ≠ []) : Cyc (lkL l (lastN r) (headN r)) r := by
  have hap := hi.apt
  have hnd := hi.nodup
  cases r with
  | nil => exact (hr rfl).elim
  | cons d r =>
    rw [headN_cons]
    have hd := (hi.le d (by simp)).2
    rcases List.eq_nil_or_concat (d :: r) with e | ⟨A, p, e⟩
    · cases e
    · rw [List.concat_eq_append] at e
      have hpm : p ∈ c :: d :: r := by rw [e]; simp
      have hp := (hi.le p hpm).2
      rw [e, lastN_snoc]
      have h1 : Ch l (d :: r) := by
        have h' : Ch l (c :: ((d :: r) ++ [c])) := h
        have h'' : Ch l ((d :: r) ++ [c]) := h'.2
        rw [e, List.append_assoc] at h''
        have := (ch_app.1 h'').1
        rw [e]; exact this
      have h2 : Ch (lkL l p d) (d :: r) := ch_lk (by omega) (by omega) (fun x hx => ⟨hap x (List.mem_cons_of_mem _ hx) p hpm, hap x (List.mem_cons_of_mem _ hx) d (by simp)⟩)
        (by rw [e, List.dropLast_concat]; intro q; rw [e] at hnd; have h5 := (List.nodup_cons.1 hnd).2; rw [List.nodup_append] at h5; exact h5.2.2 p q p (by simp) rfl) (by simp only [List.tail_cons]; intro q; exact (List.nodup_cons.1 (List.nodup_cons.1 hnd).2).1 q) h1
      rw [e] at h2
      cases hA : A ++ [p] with
      | nil => simp at hA
      | cons x s =>
        have hx : x = d := by rw [← e] at hA; injection hA with q _; exact q.symm
        subst hx
        show Ch _ ((x :: s) ++ [x])
        rw [← hA, List.append_assoc, List.singleton_append, ch_app]
        refine ⟨h2, ⟨⟨?_, ?_⟩, trivial⟩⟩
        · rw [lkL_next (by omega) (by omega) (hap p hpm x (by simp)), if_pos rfl]
        · rw [lkL_prev (by omega) (by omega) (hap x (by simp) p hpm), if_pos rfl]
end Go.Proofs.Ytlpdlhmdhlcdlaa
