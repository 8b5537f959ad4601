/-
  What each call makes of a ring's rows (no program in sight). No conditions.
-/
import Derived.Test.YtlpdlhmdhlcdlaaRingP
namespace Go.Proofs.Ytlpdlhmdhlcdlaa
set_option linter.unusedSimpArgs false
set_option linter.unusedVariables false

/-- The rows. -/
structure Seg4 where
  W : List Nat
  F : List Nat
  G : List Nat
  B : List Nat
def Seg4.all (S : Seg4) : List Nat := S.W ++ (S.F ++ (S.G ++ S.B))
def Seg4.num (S : Seg4) : Nat := S.W.length + (S.F.length + S.G.length + S.B.length)
theorem Seg4.num_eq (S : Seg4) : S.all.length = S.num := by simp [Seg4.all, Seg4.num]; omega
/-- A ring whose rows are these. -/
structure RingOf (l : List Int) (n f b : Nat) (S : Seg4) : Prop where
  len : l.length = n
  cyc : Cyc l S.all
  cin : CellsIn n S.all
  ends : S.all ≠ [] → f = headN S.all ∧ b = headN (S.B ++ S.all)
theorem nodup_len : ∀ {n : Nat} {L : List Nat}, L.Nodup → (∀ x ∈ L, x < n) → L.length ≤ n
  | 0, [], _, _ => Nat.le_refl _
  | 0, a :: _, _, h => absurd (h a (by simp)) (by omega)
  | n + 1, L, hn, h => by
    by_cases c : n ∈ L
    · have := nodup_len (n := n) (L := L.erase n) (hn.erase n) (fun x hx => by
        have h1 := hn.mem_erase_iff.1 hx
        have := h x h1.2
        omega)
      rw [List.length_erase_of_mem c] at this
      omega
    · have := nodup_len (n := n) hn (fun x hx => by
        have h1 := h x hx
        have : x ≠ n := fun e => c (e ▸ hx)
        omega)
      omega
theorem RingOf.num {l : List Int} {n f b : Nat} {S : Seg4} (h : RingOf l n f b S) : S.num ≤ n := by
  rw [← S.num_eq]
  exact nodup_len h.cin.nodup (fun x hx => by have := h.cin.le x hx; omega)
theorem nodup_mid {A B : List Nat} {c : Nat} (h : (A ++ c :: B).Nodup) : c ∉ A ∧ c ∉ B := by
  rw [List.nodup_append] at h
  exact ⟨fun q => h.2.2 c q c (by simp) rfl, (List.nodup_cons.1 h.2.1).1⟩
theorem num_head {L : List Nat} (h : L ≠ []) : ∃ a r, L = a :: r := by
  cases L with
  | nil => exact (h rfl).elim
  | cons a r => exact ⟨a, r, rfl⟩
theorem last_mem {L : List Nat} (h : L ≠ []) : lastN L ∈ L := by
  rcases List.eq_nil_or_concat L with e | ⟨A, x, e⟩
  · exact (h e).elim
  · rw [List.concat_eq_append] at e
    rw [e, lastN_snoc]
    simp
theorem head_mem {L : List Nat} (h : L ≠ []) : headN L ∈ L := by
  obtain ⟨a, r, rfl⟩ := num_head h
  exact List.mem_cons_self ..
theorem head_app {A B : List Nat} (h : A ≠ []) : headN (A ++ B) = headN A := by
  obtain ⟨a, r, rfl⟩ := num_head h
  rfl
theorem last_cons {c : Nat} {r : List Nat} (h : r ≠ []) : lastN (c :: r) = lastN r := by
  rcases List.eq_nil_or_concat r with e | ⟨A, x, e⟩
  · exact (h e).elim
  · rw [List.concat_eq_append] at e
    rw [e, lastN_snoc, ← List.cons_append, lastN_snoc]
section
variable {l : List Int} {n f b c : Nat} {W F G B : List Nat}
theorem RingOf.first (h : RingOf l n f b ⟨c :: W, F, G, B⟩) : f = c ∧ 1 ≤ c ∧ c + 3 ≤ n := ⟨(h.ends (by simp [Seg4.all])).1, h.cin.le c (by simp [Seg4.all])⟩
theorem RingOf.alloc (h : RingOf l n f b ⟨c :: W, F, G, B⟩) : ∃ f' : Nat, nth l (c + 1) = (f' : Int) ∧ RingOf l n f' b ⟨W, F, G, B ++ [c]⟩ := by
  have e : (Seg4.mk (c :: W) F G B).all = c :: (W ++ (F ++ (G ++ B))) := rfl
  have e' : (Seg4.mk W F G (B ++ [c])).all = (W ++ (F ++ (G ++ B))) ++ [c] := by simp [Seg4.all]
  have hc := h.cyc
  have hi := h.cin
  have he := h.ends (by simp [Seg4.all])
  rw [e] at hc hi he
  refine ⟨_, cyc_next hc, ⟨h.len, by rw [e']; exact cyc_rot1.1 hc, by rw [e']; exact hi.perm (by simpa using List.perm_append_comm (l₁ := [c]) (l₂ := W ++ (F ++ (G ++ B)))), fun _ => ⟨by rw [e'], ?_⟩⟩⟩
  rw [he.2]
  cases B with
  | nil => rfl
  | cons x B => rfl
theorem RingOf.rotB (h : RingOf l n f b ⟨W, F, G, B⟩) : Cyc l (B ++ (W ++ (F ++ G))) ∧ ((B ++ (W ++ (F ++ G))) ≠ [] → b = headN (B ++ (W ++ (F ++ G)))) := by
  have e : (Seg4.mk W F G B).all = (W ++ (F ++ G)) ++ B := by simp [Seg4.all]
  have hc := h.cyc
  have he := h.ends
  rw [e] at hc he
  refine ⟨cyc_rot.1 hc, fun hne => ?_⟩
  have := (he (by intro q; apply hne; simp at q ⊢; exact ⟨q.2.2.2, q.1, q.2.1, q.2.2.1⟩)).2
  rw [this]
  cases B with
  | nil => simp
  | cons x B => rfl
theorem RingOf.next (h : RingOf l n f b ⟨W, F, G ++ [c], B⟩) : nth l (b + 2) = (c : Int) ∧ b + 3 ≤ n := by
  obtain ⟨h1, h2⟩ := h.rotB
  have hne : (B ++ (W ++ (F ++ (G ++ [c])))) ≠ [] := by simp
  obtain ⟨a, r, e⟩ := num_head hne
  have hb := h2 hne
  rw [e, headN_cons] at hb
  subst hb
  rw [e] at h1
  have hp := cyc_prev h1
  rw [← e, show B ++ (W ++ (F ++ (G ++ [c]))) = (B ++ (W ++ (F ++ G))) ++ [c] by simp, lastN_snoc] at hp
  refine ⟨hp, (h.cin.le b ?_).2⟩
  have : b ∈ B ++ (W ++ (F ++ (G ++ [c]))) := by rw [e]; simp
  simp [Seg4.all] at this ⊢
  rcases this with q | q | q | q | q <;> simp [q]
theorem RingOf.done (h : RingOf l n f b ⟨W, F, G ++ [c], B⟩) : RingOf l n f c ⟨W, F, G, c :: B⟩ := by
  have e : (Seg4.mk W F (G ++ [c]) B).all = (Seg4.mk W F G (c :: B)).all := by simp [Seg4.all]
  exact ⟨h.len, by rw [← e]; exact h.cyc, by rw [← e]; exact h.cin, fun q => ⟨by rw [← e]; exact (h.ends (by rw [e]; exact q)).1, rfl⟩⟩
theorem RingOf.begin (h : RingOf l n f b ⟨W, [], [], B⟩) : RingOf l n f f ⟨W, B, [], []⟩ := by
  have e : (Seg4.mk W [] [] B).all = (Seg4.mk W B [] []).all := by simp [Seg4.all]
  exact ⟨h.len, by rw [← e]; exact h.cyc, by rw [← e]; exact h.cin, fun q => ⟨by rw [← e]; exact (h.ends (by rw [e]; exact q)).1, by rw [← e]; exact (h.ends (by rw [e]; exact q)).1⟩⟩
theorem RingOf.over (h : RingOf l n f b ⟨W, F, [], B⟩) : RingOf l n f b ⟨W ++ F, [], [], B⟩ := by
  have e : (Seg4.mk W F [] B).all = (Seg4.mk (W ++ F) [] [] B).all := by simp [Seg4.all]
  exact ⟨h.len, by rw [← e]; exact h.cyc, by rw [← e]; exact h.cin, fun q => by rw [← e]; exact h.ends (by rw [e]; exact q)⟩
theorem RingOf.drop (h : RingOf l n f b ⟨c :: W, F, G, B⟩) : ∃ p q : Nat, nth l (c + 2) = (p : Int) ∧ nth l (c + 1) = (q : Int) ∧ p + 3 ≤ n ∧ q + 3 ≤ n ∧ RingOf (lkL l p q) n q (if b = c then q else b) ⟨W, F, G, B⟩ := by
  have e : (Seg4.mk (c :: W) F G B).all = c :: (W ++ (F ++ (G ++ B))) := rfl
  have e' : (Seg4.mk W F G B).all = W ++ (F ++ (G ++ B)) := rfl
  have hc := h.cyc
  have hi := h.cin
  have he := h.ends (by simp [Seg4.all])
  rw [e] at hc hi he
  have hp := cyc_prev hc
  have hn := cyc_next hc
  have hcl := hi.le c (by simp)
  by_cases hr : W ++ (F ++ (G ++ B)) = []
  · rw [hr] at hp hn
    refine ⟨c, c, hp, hn, hcl.2, hcl.2, ⟨by rw [lkL_len]; exact h.len, by rw [e', hr]; trivial, by rw [e', hr]; exact ⟨List.Pairwise.nil, fun x hx => by cases hx⟩, fun q => (q (by rw [e', hr])).elim⟩⟩
  · have hq := hi.le _ (List.mem_cons_of_mem _ (head_mem hr))
    have hpp := hi.le _ (List.mem_cons_of_mem _ (last_mem hr))
    rw [last_cons hr] at hp
    rw [head_app hr] at hn
    refine ⟨_, _, hp, hn, hpp.2, hq.2, ⟨by rw [lkL_len]; exact h.len, by rw [e']; exact cyc_cut h.len hi hc hr, by rw [e']; exact hi.tail, fun _ => ⟨by rw [e'], ?_⟩⟩⟩
    rw [e']
    cases B with
    | nil =>
      rw [if_pos (show b = c from he.2)]
      rfl
    | cons x B =>
      have hx : b = x := he.2
      rw [if_neg, hx]
      · rfl
      · rw [hx]
        rintro rfl
        have := hi.nodup
        simp at this
theorem RingOf.shade1 (h : RingOf l n f b ⟨[], [c], [], []⟩) : RingOf l n f b ⟨[], [], [c], []⟩ := ⟨h.len, h.cyc, h.cin, h.ends⟩
theorem RingOf.shade {F1 F2 : List Nat} (h : RingOf l n f b ⟨W, F1 ++ c :: F2, G, B⟩) (hM : W ++ (F1 ++ (F2 ++ (G ++ B))) ≠ []) :
    ∃ p q p2 b' : Nat, nth l (c + 2) = (p : Int) ∧ nth l (c + 1) = (q : Int) ∧ c + 3 ≤ n ∧ p + 3 ≤ n ∧ q + 3 ≤ n ∧ b' = (if b = c then q else b) ∧ nth (lkL l p q) (b' + 2) = (p2 : Int) ∧ b' + 3 ≤ n ∧ p2 + 3 ≤ n ∧
      RingOf (lkL (lkL (lkL l p q) p2 c) c b') n (if W ++ (F1 ++ (F2 ++ G)) = [] then c else if f = c then q else f) b' ⟨W, F1 ++ F2, G ++ [c], B⟩ := by
  have e : (Seg4.mk W (F1 ++ c :: F2) G B).all = (W ++ F1) ++ c :: (F2 ++ (G ++ B)) := by simp [Seg4.all]
  have hc := h.cyc
  have hi := h.cin
  have he := h.ends (by rw [e]; simp)
  rw [e] at hc hi he
  have hnd := nodup_mid hi.nodup
  have hc1 := cyc_rot.1 hc
  rw [List.cons_append] at hc1
  have hi1 : CellsIn n (c :: (F2 ++ (G ++ B) ++ (W ++ F1))) := hi.perm (by simpa using List.perm_append_comm (l₁ := W ++ F1) (l₂ := c :: (F2 ++ (G ++ B))))
  have hr : F2 ++ (G ++ B) ++ (W ++ F1) ≠ [] := by intro q; apply hM; simp at q ⊢; exact ⟨q.2.2.2.1, q.2.2.2.2, q.1, q.2.1, q.2.2.1⟩
  have hp := cyc_prev hc1
  have hn := cyc_next hc1
  have hcl := hi1.le c (by simp)
  have hq := hi1.le _ (List.mem_cons_of_mem _ (head_mem hr))
  have hpp := hi1.le _ (List.mem_cons_of_mem _ (last_mem hr))
  rw [last_cons hr] at hp
  rw [head_app hr] at hn
  have hcut := cyc_cut h.len hi1 hc1 hr
  -- around from the black ones on
  have hR : Cyc (lkL l (lastN (F2 ++ (G ++ B) ++ (W ++ F1))) (headN (F2 ++ (G ++ B) ++ (W ++ F1)))) (B ++ (W ++ (F1 ++ (F2 ++ G)))) := by
    have := cyc_rot (A := F2 ++ G) (B := B ++ (W ++ F1)).1 (by simpa using hcut)
    simpa using this
  obtain ⟨q, hqq⟩ : ∃ q, headN (F2 ++ (G ++ B) ++ (W ++ F1)) = q := ⟨_, rfl⟩
  obtain ⟨p, hpq⟩ : ∃ p, lastN (F2 ++ (G ++ B) ++ (W ++ F1)) = p := ⟨_, rfl⟩
  rw [hqq] at hn hq hR
  rw [hpq] at hp hpp hR
  have hb' : (if b = c then q else b) = headN (B ++ (W ++ (F1 ++ (F2 ++ G)))) := by
    cases B with
    | cons x B =>
      have hx : b = x := he.2
      rw [if_neg, hx]
      · rfl
      · rw [hx]
        rintro rfl
        exact hnd.2 (by simp)
    | nil =>
      cases hA : W ++ F1 with
      | nil =>
        rw [hA] at he
        have hx : b = c := he.2
        rw [if_pos hx, ← hqq, hA]
        simp at hA
        simp [hA]
      | cons x A =>
        rw [hA] at he hnd
        have hx : b = x := he.2
        rw [if_neg, hx]
        · rw [List.nil_append, ← List.append_assoc, hA]
          rfl
        · rw [hx]
          rintro rfl
          exact hnd.1 (by simp)
  have hf' : (W ++ (F1 ++ (F2 ++ G)) ≠ []) → (if f = c then q else f) = headN (W ++ (F1 ++ (F2 ++ G))) := fun hE => by
    cases hA : W ++ F1 with
    | nil =>
      rw [hA] at he
      have hx : f = c := he.1
      rw [if_pos hx, ← hqq, hA]
      have hA' : W = [] ∧ F1 = [] := by simpa using hA
      rw [hA'.1, hA'.2] at hE ⊢
      simp only [List.nil_append, List.append_nil] at hE ⊢
      rw [← List.append_assoc, head_app hE]
    | cons x A =>
      rw [hA] at he hnd
      have hx : f = x := he.1
      rw [if_neg, hx]
      · rw [← List.append_assoc, hA]
        rfl
      · rw [hx]
        rintro rfl
        exact hnd.1 (by simp)
  have hne : B ++ (W ++ (F1 ++ (F2 ++ G))) ≠ [] := by intro q; apply hM; simp at q ⊢; exact ⟨q.2.1, q.2.2.1, q.2.2.2.1, q.2.2.2.2, q.1⟩
  obtain ⟨a, r, har⟩ := num_head hne
  have hi2 : CellsIn n (c :: (B ++ (W ++ (F1 ++ (F2 ++ G))))) := hi1.perm (List.Perm.cons c (by
    have h1 : (F2 ++ (G ++ B) ++ (W ++ F1)) = (F2 ++ G) ++ (B ++ (W ++ F1)) := by simp
    have h2 : (B ++ (W ++ (F1 ++ (F2 ++ G)))) = (B ++ (W ++ F1)) ++ (F2 ++ G) := by simp
    rw [h1, h2]
    exact List.perm_append_comm))
  rw [har] at hR hi2 hb'
  rw [headN_cons] at hb'
  have hpa := cyc_prev hR
  have hput := cyc_put (by rw [lkL_len]; exact h.len) hi2 hR
  have hal := hi2.le a (by simp)
  have hp2 := hi2.le _ (List.mem_cons_of_mem _ (last_mem (L := a :: r) (by simp)))
  have e' : (Seg4.mk W (F1 ++ F2) (G ++ [c]) B).all = (W ++ (F1 ++ (F2 ++ G))) ++ c :: B := by simp [Seg4.all]
  refine ⟨p, q, lastN (a :: r), a, hp, hn, hcl.2, hpp.2, hq.2, hb'.symm, hpa, hal.2, hp2.2, ⟨by rw [lkL_len, lkL_len, lkL_len]; exact h.len, ?_, ?_, fun _ => ⟨?_, ?_⟩⟩⟩
  · rw [e']
    have hput' : Cyc (lkL (lkL (lkL l p q) (lastN (a :: r)) c) c a) (c :: (B ++ (W ++ (F1 ++ (F2 ++ G))))) := by rw [har]; exact hput
    have := cyc_rot (A := c :: B) (B := W ++ (F1 ++ (F2 ++ G))).1 (by simpa using hput')
    exact this
  · rw [e']
    rw [← har] at hi2
    exact hi2.perm (by simpa using List.perm_append_comm (l₁ := c :: B) (l₂ := W ++ (F1 ++ (F2 ++ G))))
  · rw [e']
    by_cases hE : W ++ (F1 ++ (F2 ++ G)) = []
    · rw [if_pos hE, hE]
      rfl
    · rw [if_neg hE, hf' hE, head_app hE]
  · rw [e']
    cases B with
    | cons x B =>
      have : a = x := by rw [List.cons_append] at har; injection har with q _; exact q.symm
      rw [this]
      rfl
    | nil =>
      rw [List.nil_append] at har ⊢
      rw [har]
      rfl
end
end Go.Proofs.Ytlpdlhmdhlcdlaa
