/-
  Scope in plain words (layer 10): binds in another order, or with more names around, have no other fault; a fault has a name. No conditions.
-/
import Derived.Test.YtpjlibbdngnnnaaDoorSpP
namespace Go.Proofs.YtpjlibbdngnnnaaDoor
set_option linter.unusedSimpArgs false
set_option linter.unusedVariables false

theorem thenF_zero {a b : FS} : (thenF a b).1 = 0 ↔ a.1 = 0 ∧ b.1 = 0 := by
  unfold thenF
  by_cases h : a.1 = 0
  · rw [if_pos h]; simp [h]
  · rw [if_neg h]; simp [h]
theorem firstF_zero : ∀ {l : List FS}, (firstF l).1 = 0 ↔ ∀ a ∈ l, a.1 = 0
  | [] => by simp [firstF, noF]
  | a :: l => by
    show (thenF a (firstF l)).1 = 0 ↔ _
    rw [thenF_zero, firstF_zero (l := l)]
    simp
theorem Stays.split {f g : FS → FS} (hg : Stays g) (hf : Stays f) {s : FS} : (g (f s)).1 = 0 ↔ (f s).1 = 0 ∧ (g s).1 = 0 := by
  constructor
  · intro h
    have h1 := hg.2 _ h
    have h2 : (f s).1 = 0 := by rw [← h1]; exact h
    have h3 := hf.2 _ h2
    exact ⟨h2, by rw [h3] at h; exact h⟩
  · rintro ⟨h1, h2⟩
    rw [hf.2 _ h1]
    exact h2
theorem twG_nodup : ∀ (l p : List (List UInt8)), (twG p l noF).1 = 0 ↔ (∀ x ∈ l, x ∉ p) ∧ l.Nodup
  | [], p => by simp [twG, noF]
  | x :: l, p => by
    show (twG (p ++ [x]) l (if x ∈ p then fltS noF 5 x else noF)).1 = 0 ↔ _
    by_cases h : x ∈ p
    · rw [if_pos h, flt_no, twG_stay _ _ _ (show (5 : Nat) ≠ 0 by decide)]
      simp [h]
    · rw [if_neg h, twG_nodup l (p ++ [x])]
      simp only [List.mem_append, List.mem_singleton, not_or, List.mem_cons, forall_eq_or_imp, List.nodup_cons]
      constructor
      · rintro ⟨h1, h2⟩
        exact ⟨⟨h, fun y hy => (h1 y hy).1⟩, fun q => (h1 x q).2.1 rfl, h2⟩
      · rintro ⟨⟨h1, h2⟩, h3, h4⟩
        exact ⟨fun y hy => ⟨h2 y hy, fun q => h3 (q ▸ hy), fun z => by simp at z⟩, h4⟩
theorem twF_nodup (l : List (List UInt8)) : (twF l noF).1 = 0 ↔ l.Nodup := by
  unfold twF
  rw [twG_nodup]
  simp
section
variable (cons : List (List UInt8))
mutual
/-- More names around leave it without a fault. -/
theorem scE_sub : ∀ (e : TE) (i j : List (List UInt8)) (s : FS), (∀ x, x ∈ i → x ∈ j) → (scE cons e i s).1 = 0 → (scE cons e j s).1 = 0
  | .mk k n _ _ ps ks bs al, i, j, s, hs, h => by
    have hap : ∀ (l : List (List UInt8)) x, x ∈ i ++ l → x ∈ j ++ l := fun l x hx => by
      rcases List.mem_append.1 hx with q | q
      · exact List.mem_append.2 (.inl (hs x q))
      · exact List.mem_append.2 (.inr q)
    rw [scE] at h ⊢
    by_cases h1 : k = 1
    · rw [if_pos h1] at h ⊢
      have hc : Stays (fun s => if n ∈ i then s else fltS s 4 n) := if_stays Stays.id (flt_stays (by decide) n)
      have hd : Stays (fun s => if n ∈ j then s else fltS s 4 n) := if_stays Stays.id (flt_stays (by decide) n)
      have q := (Stays.split (scA_stays cons al i) (Stays.comp (scK_stays cons ks i) hc)).1 h
      have q2 := (Stays.split (scK_stays cons ks i) hc).1 q.1
      refine (Stays.split (scA_stays cons al j) (Stays.comp (scK_stays cons ks j) hd)).2 ⟨(Stays.split (scK_stays cons ks j) hd).2 ⟨?_, scK_sub ks i j s hs q2.2⟩, scA_sub al i j s hs q.2⟩
      have q3 := q2.1
      by_cases hn : n ∈ i
      · simp only [if_pos hn] at q3
        simp only [if_pos (hs n hn)]
        exact q3
      · simp only [if_neg hn] at q3
        exact absurd q3 (flt_bad (by decide))
    rw [if_neg h1] at h ⊢
    by_cases h2 : k = 2
    · rw [if_pos h2] at h ⊢
      have q := (Stays.split (scA_stays cons al i) (Stays.comp (scK_stays cons ks i) (conS_stays cons n))).1 h
      have q2 := (Stays.split (scK_stays cons ks i) (conS_stays cons n)).1 q.1
      exact (Stays.split (scA_stays cons al j) (Stays.comp (scK_stays cons ks j) (conS_stays cons n))).2 ⟨(Stays.split (scK_stays cons ks j) (conS_stays cons n)).2 ⟨q2.1, scK_sub ks i j s hs q2.2⟩, scA_sub al i j s hs q.2⟩
    rw [if_neg h2] at h ⊢
    by_cases h6 : k = 6
    · rw [if_pos h6] at h ⊢
      have hl := hap (nmB bs)
      have q := (Stays.split (scA_stays cons al (i ++ nmB bs)) (Stays.comp (scK_stays cons ks (i ++ nmB bs)) (Stays.comp (scB_stays cons bs (i ++ nmB bs)) (twF_stays (nmB bs))))).1 h
      have q2 := (Stays.split (scK_stays cons ks (i ++ nmB bs)) (Stays.comp (scB_stays cons bs (i ++ nmB bs)) (twF_stays (nmB bs)))).1 q.1
      have q3 := (Stays.split (scB_stays cons bs (i ++ nmB bs)) (twF_stays (nmB bs))).1 q2.1
      exact (Stays.split (scA_stays cons al (j ++ nmB bs)) (Stays.comp (scK_stays cons ks (j ++ nmB bs)) (Stays.comp (scB_stays cons bs (j ++ nmB bs)) (twF_stays (nmB bs))))).2
        ⟨(Stays.split (scK_stays cons ks (j ++ nmB bs)) (Stays.comp (scB_stays cons bs (j ++ nmB bs)) (twF_stays (nmB bs)))).2 ⟨(Stays.split (scB_stays cons bs (j ++ nmB bs)) (twF_stays (nmB bs))).2 ⟨q3.1, scB_sub bs _ _ s hl q3.2⟩, scK_sub ks _ _ s hl q2.2⟩, scA_sub al _ _ s hl q.2⟩
    rw [if_neg h6] at h ⊢
    by_cases h8 : k = 8
    · rw [if_pos h8] at h ⊢
      have hl := hap ps
      have q := (Stays.split (scA_stays cons al (i ++ ps)) (Stays.comp (scK_stays cons ks (i ++ ps)) (twF_stays ps))).1 h
      have q2 := (Stays.split (scK_stays cons ks (i ++ ps)) (twF_stays ps)).1 q.1
      exact (Stays.split (scA_stays cons al (j ++ ps)) (Stays.comp (scK_stays cons ks (j ++ ps)) (twF_stays ps))).2 ⟨(Stays.split (scK_stays cons ks (j ++ ps)) (twF_stays ps)).2 ⟨q2.1, scK_sub ks _ _ s hl q2.2⟩, scA_sub al _ _ s hl q.2⟩
    rw [if_neg h8] at h ⊢
    have q := (Stays.split (scA_stays cons al i) (scK_stays cons ks i)).1 h
    exact (Stays.split (scA_stays cons al j) (scK_stays cons ks j)).2 ⟨scK_sub ks i j s hs q.1, scA_sub al i j s hs q.2⟩
theorem scK_sub : ∀ (l : List TE) (i j : List (List UInt8)) (s : FS), (∀ x, x ∈ i → x ∈ j) → (scK cons l i s).1 = 0 → (scK cons l j s).1 = 0
  | [], i, j, s, hs, h => by rw [scK] at h ⊢; exact h
  | e :: l, i, j, s, hs, h => by
    rw [scK] at h ⊢
    have q := (Stays.split (scK_stays cons l i) (scE_stays cons e i)).1 h
    exact (Stays.split (scK_stays cons l j) (scE_stays cons e j)).2 ⟨scE_sub e i j s hs q.1, scK_sub l i j s hs q.2⟩
theorem scB_sub : ∀ (l : List TB) (i j : List (List UInt8)) (s : FS), (∀ x, x ∈ i → x ∈ j) → (scB cons l i s).1 = 0 → (scB cons l j s).1 = 0
  | [], i, j, s, hs, h => by rw [scB] at h ⊢; exact h
  | .mk n p e :: l, i, j, s, hs, h => by
    rw [scB] at h ⊢
    have hl : ∀ x, x ∈ i ++ p → x ∈ j ++ p := fun x hx => by
      rcases List.mem_append.1 hx with q | q
      · exact List.mem_append.2 (.inl (hs x q))
      · exact List.mem_append.2 (.inr q)
    have q := (Stays.split (scB_stays cons l i) (Stays.comp (scE_stays cons e (i ++ p)) (twF_stays p))).1 h
    have q2 := (Stays.split (scE_stays cons e (i ++ p)) (twF_stays p)).1 q.1
    exact (Stays.split (scB_stays cons l j) (Stays.comp (scE_stays cons e (j ++ p)) (twF_stays p))).2 ⟨(Stays.split (scE_stays cons e (j ++ p)) (twF_stays p)).2 ⟨q2.1, scE_sub e _ _ s hl q2.2⟩, scB_sub l i j s hs q.2⟩
theorem scA_sub : ∀ (l : List TA) (i j : List (List UInt8)) (s : FS), (∀ x, x ∈ i → x ∈ j) → (scA cons l i s).1 = 0 → (scA cons l j s).1 = 0
  | [], i, j, s, hs, h => by rw [scA] at h ⊢; exact h
  | .mk k n _ _ ns e :: l, i, j, s, hs, h => by
    rw [scA] at h ⊢
    have hap : ∀ (l : List (List UInt8)) x, x ∈ i ++ l → x ∈ j ++ l := fun l x hx => by
      rcases List.mem_append.1 hx with q | q
      · exact List.mem_append.2 (.inl (hs x q))
      · exact List.mem_append.2 (.inr q)
    by_cases h0 : k = 0
    · simp only [if_pos h0] at h ⊢
      have hf := fun i => Stays.comp (scE_stays cons e (i ++ ns)) (Stays.comp (twF_stays ns) (conS_stays cons n))
      have q := (Stays.split (scA_stays cons l i) (hf i)).1 h
      have q2 := (Stays.split (scE_stays cons e (i ++ ns)) (Stays.comp (twF_stays ns) (conS_stays cons n))).1 q.1
      exact (Stays.split (scA_stays cons l j) (hf j)).2 ⟨(Stays.split (scE_stays cons e (j ++ ns)) (Stays.comp (twF_stays ns) (conS_stays cons n))).2 ⟨q2.1, scE_sub e _ _ s (hap ns) q2.2⟩, scA_sub l i j s hs q.2⟩
    · by_cases h2 : k = 2
      · simp only [if_neg h0, if_pos h2] at h ⊢
        have q := (Stays.split (scA_stays cons l i) (scE_stays cons e (i ++ [n]))).1 h
        exact (Stays.split (scA_stays cons l j) (scE_stays cons e (j ++ [n]))).2 ⟨scE_sub e _ _ s (hap [n]) q.1, scA_sub l i j s hs q.2⟩
      · simp only [if_neg h0, if_neg h2] at h ⊢
        have q := (Stays.split (scA_stays cons l i) (scE_stays cons e i)).1 h
        exact (Stays.split (scA_stays cons l j) (scE_stays cons e j)).2 ⟨scE_sub e i j s hs q.1, scA_sub l i j s hs q.2⟩
end
theorem body_sub {p : List (List UInt8)} {e : TE} {i j : List (List UInt8)} (hs : ∀ x, x ∈ i → x ∈ j) (h : (bodyF cons p e i).1 = 0) : (bodyF cons p e j).1 = 0 := by
  unfold bodyF at h ⊢
  rw [firstF_zero] at h ⊢
  intro a ha
  simp at ha
  rcases ha with rfl | rfl
  · exact h _ (by simp)
  · refine scE_sub cons e _ _ noF (fun x hx => ?_) (h (scE cons e (i ++ p) noF) (by simp))
    rcases List.mem_append.1 hx with q | q
    · exact List.mem_append.2 (.inl (hs x q))
    · exact List.mem_append.2 (.inr q)
end
/-- What it is to have no fault. -/
theorem chk_zero (m : TM) : (chkF m).1 = 0 ↔ (twF (consN m) noF).1 = 0 ∧ (nmB m.binds).Nodup ∧ mainN ∈ nmB m.binds ∧ ∀ b ∈ m.binds, (bodyF (consN m) b.params b.body (nmB m.binds)).1 = 0 := by
  rw [chk_first, firstF_zero, scB_first]
  simp only [List.mem_cons, List.not_mem_nil, or_false, forall_eq_or_imp, forall_eq]
  rw [twF_nodup (nmB m.binds), firstF_zero]
  simp only [List.mem_map, forall_exists_index, and_imp, forall_apply_eq_imp_iff₂]
  by_cases h : mainN ∈ nmB m.binds
  · simp [h, noF]
  · simp [h]
theorem order_zero {m m' : TM} (hc : m'.cons = m.cons) (hb : ∀ b, b ∈ m'.binds ↔ b ∈ m.binds) (hn : (nmB m'.binds).Nodup ↔ (nmB m.binds).Nodup) : (chkF m').1 = 0 ↔ (chkF m).1 = 0 := by
  have hcc : consN m' = consN m := by unfold consN; rw [hc]
  have hx : ∀ x, x ∈ nmB m'.binds ↔ x ∈ nmB m.binds := fun x => by
    unfold nmB
    simp only [List.mem_map]
    exact ⟨fun ⟨b, h1, h2⟩ => ⟨b, (hb b).1 h1, h2⟩, fun ⟨b, h1, h2⟩ => ⟨b, (hb b).2 h1, h2⟩⟩
  rw [chk_zero, chk_zero, hcc, hn, hx]
  refine and_congr Iff.rfl (and_congr Iff.rfl (and_congr Iff.rfl ⟨fun h b q => ?_, fun h b q => ?_⟩))
  · exact body_sub _ (fun x => (hx x).1) (h b ((hb b).2 q))
  · exact body_sub _ (fun x => (hx x).2) (h b ((hb b).1 q))
theorem turn_zero (m : TM) (t : Nat) : (chkF ⟨m.cons, m.binds.drop t ++ m.binds.take t⟩).1 = 0 ↔ (chkF m).1 = 0 := by
  refine order_zero rfl (fun b => ?_) ?_
  · show b ∈ m.binds.drop t ++ m.binds.take t ↔ _
    rw [List.mem_append, or_comm, ← List.mem_append, List.take_append_drop]
  · show (nmB (m.binds.drop t ++ m.binds.take t)).Nodup ↔ _
    have e : nmB m.binds = nmB (m.binds.take t) ++ nmB (m.binds.drop t) := by
      unfold nmB
      rw [← List.map_append, List.take_append_drop]
    have e2 : nmB (m.binds.drop t ++ m.binds.take t) = nmB (m.binds.drop t) ++ nmB (m.binds.take t) := by
      unfold nmB
      rw [List.map_append]
    rw [e, e2]
    exact (List.perm_append_comm).nodup_iff
-- a fault has a name
mutual
/-- All names are some. -/
def neE : TE → Prop
  | .mk k n _ _ ps ks bs al => ((k = 1 ∨ k = 2) → n ≠ []) ∧ (∀ x ∈ ps, x ≠ []) ∧ neK ks ∧ neB bs ∧ neA al
def neK : List TE → Prop
  | [] => True
  | e :: l => neE e ∧ neK l
def neB : List TB → Prop
  | [] => True
  | .mk n ps e :: l => (n ≠ [] ∧ (∀ x ∈ ps, x ≠ []) ∧ neE e) ∧ neB l
def neA : List TA → Prop
  | [] => True
  | .mk k n _ _ ps e :: l => ((k = 0 → n ≠ []) ∧ (∀ x ∈ ps, x ≠ []) ∧ neE e) ∧ neA l
end
def Named (s : FS) : Prop := s.1 ≠ 0 → s.2 ≠ []
theorem Named.flt {s : FS} (h : Named s) {e : Nat} {n : List UInt8} (hn : n ≠ []) : Named (fltS s e n) := by
  unfold fltS
  split
  · exact fun _ => hn
  · exact h
theorem Named.twG : ∀ (l p : List (List UInt8)) {s : FS}, Named s → (∀ x ∈ l, x ≠ []) → Named (twG p l s)
  | [], p, s, h, hl => h
  | x :: l, p, s, h, hl => by
    refine Named.twG l _ ?_ (fun y hy => hl y (by simp [hy]))
    split
    · exact h.flt (hl x (by simp))
    · exact h
theorem Named.twF {l : List (List UInt8)} {s : FS} (h : Named s) (hl : ∀ x ∈ l, x ≠ []) : Named (twF l s) := Named.twG l [] h hl
theorem neB_nm : ∀ {bs : List TB}, neB bs → ∀ x ∈ nmB bs, x ≠ []
  | [], _, x, hx => by simp [nmB] at hx
  | .mk n p e :: l, h, x, hx => by
    unfold nmB at hx
    rw [List.map_cons] at hx
    rcases List.mem_cons.1 hx with q | q
    · rw [q]; exact h.1.1
    · exact neB_nm h.2 x q
section
variable (cons : List (List UInt8))
theorem Named.con {n : List UInt8} {s : FS} (h : Named s) (hn : n ≠ []) : Named (conS cons n s) := by
  unfold conS
  split
  · exact h
  · exact h.flt hn
mutual
theorem scE_named : ∀ (e : TE) (i : List (List UInt8)) (s : FS), neE e → Named s → Named (scE cons e i s)
  | .mk k n _ _ ps ks bs al, i, s, hn, h => by
    unfold neE at hn
    obtain ⟨h1, hp, hk, hb, ha⟩ := hn
    rw [scE]
    split
    · rename_i q
      refine scA_named al i _ ha (scK_named ks i _ hk ?_)
      split
      · exact h
      · exact h.flt (h1 (.inl q))
    · split
      · rename_i q
        exact scA_named al i _ ha (scK_named ks i _ hk (h.con cons (h1 (.inr q))))
      · split
        · exact scA_named al _ _ ha (scK_named ks _ _ hk (scB_named bs _ _ hb (h.twF (neB_nm hb))))
        · split
          · exact scA_named al _ _ ha (scK_named ks _ _ hk (h.twF hp))
          · exact scA_named al i _ ha (scK_named ks i _ hk h)
theorem scK_named : ∀ (l : List TE) (i : List (List UInt8)) (s : FS), neK l → Named s → Named (scK cons l i s)
  | [], i, s, hn, h => by rw [scK]; exact h
  | e :: l, i, s, hn, h => by
    rw [scK]
    exact scK_named l i _ hn.2 (scE_named e i s hn.1 h)
theorem scB_named : ∀ (l : List TB) (i : List (List UInt8)) (s : FS), neB l → Named s → Named (scB cons l i s)
  | [], i, s, hn, h => by rw [scB]; exact h
  | .mk n p e :: l, i, s, hn, h => by
    rw [scB]
    exact scB_named l i _ hn.2 (scE_named e _ _ hn.1.2.2 (h.twF hn.1.2.1))
theorem scA_named : ∀ (l : List TA) (i : List (List UInt8)) (s : FS), neA l → Named s → Named (scA cons l i s)
  | [], i, s, hn, h => by rw [scA]; exact h
  | .mk k n _ _ ns e :: l, i, s, hn, h => by
    rw [scA]
    refine scA_named l i _ hn.2 ?_
    split
    · rename_i q
      exact scE_named e _ _ hn.1.2.2 ((h.con cons (hn.1.1 q)).twF hn.1.2.1)
    · split
      · exact scE_named e _ _ hn.1.2.2 h
      · exact scE_named e _ _ hn.1.2.2 h
end
end
theorem chk_named {m : TM} (hc : ∀ d ∈ m.cons, d.1 ≠ []) (hb : neB m.binds) : Named (chkF m) := by
  have hcn : ∀ x ∈ consN m, x ≠ [] := fun x hx => by
    unfold consN at hx
    rcases List.mem_append.1 hx with q | q
    · simp at q
      rcases q with rfl | rfl | rfl | rfl <;> decide
    · obtain ⟨d, hd, rfl⟩ := List.mem_map.1 q
      exact hc d hd
  have h0 : Named (0, []) := fun q => absurd rfl q
  have h1 := (Named.twF h0 hcn).twF (neB_nm hb)
  unfold chkF
  refine scB_named _ _ _ _ hb ?_
  split
  · exact h1
  · exact h1.flt (by decide)
-- the names of a source
section
variable {L : List TokV}
theorem isT_ne (hL : ∀ t ∈ L, t.text ≠ []) {k : Int} {n : List UInt8} (h : isT L k n) : n ≠ [] := by
  obtain ⟨t, ht, _, rfl⟩ := h
  exact hL t ht
mutual
theorem wf_ne (hL : ∀ t ∈ L, t.text ≠ []) : ∀ e : TE, wfE L e → neE e
  | .mk k n fl bi ps ks bs al, h => by
    unfold wfE at h
    obtain ⟨hs, hk, hb, ha⟩ := h
    have ik := wf_neK hL ks hk
    have ib := wf_neB hL bs hb
    have ia := wf_neA hL al ha
    unfold neE
    have hp0 : ∀ x ∈ ([] : List (List UInt8)), x ≠ [] := fun x hx => by simp at hx
    unfold shE at hs
    rcases hs with ⟨rfl, q, _, _, rfl, rfl, rfl, rfl⟩ | ⟨rfl, q, _, _, rfl, rfl, rfl⟩ | ⟨rfl, rfl, _, rfl, rfl, rfl, rfl⟩ | ⟨rfl, rfl, _, _, _, rfl, rfl, rfl⟩ | ⟨rfl, q, _, _, rfl, rfl, rfl⟩ | ⟨rfl, rfl, _, _, _, _, rfl, rfl⟩ | ⟨rfl, rfl, _, _, _, rfl, rfl⟩ | ⟨rfl, rfl, _, _, _, _, q, rfl, rfl⟩
    · exact ⟨fun _ => isT_ne hL q, hp0, ik, ib, ia⟩
    · exact ⟨fun _ => isT_ne hL q, hp0, ik, ib, ia⟩
    · exact ⟨fun z => by omega, hp0, ik, ib, ia⟩
    · exact ⟨fun z => by omega, hp0, ik, ib, ia⟩
    · exact ⟨fun z => by omega, hp0, ik, ib, ia⟩
    · exact ⟨fun z => by omega, hp0, ik, ib, ia⟩
    · exact ⟨fun z => by omega, hp0, ik, ib, ia⟩
    · exact ⟨fun z => by omega, fun x hx => isT_ne hL (q x hx), ik, ib, ia⟩
theorem wf_neK (hL : ∀ t ∈ L, t.text ≠ []) : ∀ l : List TE, wfK L l → neK l
  | [], _ => trivial
  | e :: l, h => by
    unfold wfK at h
    exact ⟨wf_ne hL e h.1, wf_neK hL l h.2⟩
theorem wf_neB (hL : ∀ t ∈ L, t.text ≠ []) : ∀ l : List TB, wfB L l → neB l
  | [], _ => trivial
  | .mk n p e :: l, h => by
    unfold wfB at h
    exact ⟨⟨isT_ne hL h.1.1, fun x hx => isT_ne hL (h.1.2.1 x hx), wf_ne hL e h.1.2.2⟩, wf_neB hL l h.2⟩
theorem wf_neA (hL : ∀ t ∈ L, t.text ≠ []) : ∀ l : List TA, wfA L l → neA l
  | [], _ => trivial
  | .mk k n f b p e :: l, h => by
    unfold wfA at h
    have h1 := wf_ne hL e h.1.2
    have h2 := wf_neA hL l h.2
    rcases h.1.1 with q | q | q
    · exact ⟨⟨fun _ => isT_ne hL q.2.1, fun x hx => isT_ne hL (q.2.2.2.2 x hx), h1⟩, h2⟩
    · exact ⟨⟨fun z => by omega, fun x hx => by rw [q.2.2.2] at hx; simp at hx, h1⟩, h2⟩
    · exact ⟨⟨fun z => by omega, fun x hx => by rw [q.2.2.2.2] at hx; simp at hx, h1⟩, h2⟩
end
theorem token_ne (hL : ∀ t ∈ L, t.text ≠ []) {k : Int} {s : PS} (hk : k ≠ 0) (h : s.e = 0 ∧ kindP L s = k) : (tokenF L k s).1.text ≠ [] := by
  unfold tokenF
  rw [if_pos h]
  exact hL _ (kind_mem h.2 hk).1
theorem data_ne (hL : ∀ t ∈ L, t.text ≠ []) : ∀ (n : Nat) (acc : List (List UInt8 × Nat)) (s : PS), (∀ d ∈ acc, d.1 ≠ []) → ∀ d ∈ (dataF L n acc s).1, d.1 ≠ []
  | 0, acc, s, h => h
  | n + 1, acc, s, h => by
    unfold dataF
    split
    · rename_i hc
      refine data_ne hL n _ _ (fun d hd => ?_)
      rcases List.mem_append.1 hd with q | q
      · exact h d q
      · rw [List.mem_singleton] at q
        rw [q]
        exact token_ne hL (by decide) hc
    · exact h
theorem mod_ne (hL : ∀ t ∈ L, t.text ≠ []) : ∀ (n : Nat) (m : TM) (s : PS), (∀ d ∈ m.cons, d.1 ≠ []) → ∀ d ∈ (modF L n m s).1.cons, d.1 ≠ []
  | 0, m, s, h => h
  | n + 1, m, s, h => by
    unfold modF
    split
    · split
      · refine mod_ne hL n _ _ (fun d hd => ?_)
        rcases List.mem_append.1 hd with q | q
        · exact h d q
        · exact data_ne hL _ _ _ (fun d hd => by simp at hd) d q
      · exact mod_ne hL n _ _ h
    · exact h
end
theorem lexG_ne (f : Nat) (acc : List TokV) (l : List UInt8) (ln : Nat) (ha : ∀ t ∈ acc, t.text ≠ []) : ∀ t ∈ (lexG f acc l ln).toks, t.text ≠ [] := by
  induction f generalizing acc l ln with
  | zero => exact ha
  | succ f ih =>
    by_cases hl : l = []
    · subst hl; rw [lexG_end]; exact ha
    · by_cases he : (oneF l ln).2 = 0
      · by_cases hf : acc.length = 4096
        · rw [lexG_full hl he hf]
          exact fun t ht => by simp at ht
        · rw [lexG_more hl he hf]
          refine ih _ _ _ (fun t ht => ?_)
          rcases List.mem_append.1 ht with q | q
          · exact ha t q
          · obtain rfl : t = (oneF l ln).1 := by simpa using q
            have := (oneF_pre l ln he).2.1
            intro z
            rw [z] at this
            simp at this
      · rw [lexG_bad hl he]
        exact fun t ht => by simp at ht
theorem lexF_ne (s : List UInt8) : ∀ t ∈ (lexF s).toks, t.text ≠ [] := by
  unfold lexF
  exact lexG_ne _ [] _ _ (fun t ht => by simp at ht)
theorem parse_named (s : List UInt8) : Named (chkF (parseF s).1) := by
  refine chk_named (m := (parseF s).1) ?_ (wf_neB (lexF_ne s) _ (parse_ok s).1)
  unfold parseF
  split
  · intro d hd; simp at hd
  · show ∀ d ∈ (tokensF (lexF s).toks).1.cons, _
    unfold tokensF
    simp only
    split
    · intro d hd; simp at hd
    · exact mod_ne (lexF_ne s) _ _ _ (fun d hd => by simp at hd)
end Go.Proofs.YtpjlibbdngnnnaaDoor
