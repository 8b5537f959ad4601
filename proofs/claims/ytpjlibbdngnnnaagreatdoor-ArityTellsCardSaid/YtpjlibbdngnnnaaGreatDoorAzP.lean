/-
  Arity in plain words (layer 11): where scope has no fault, the document's count of a constructor is the program's. No conditions.
-/
import Derived.Test.YtpjlibbdngnnnaaGreatDoorAzA
import Derived.Test.YtpjlibbdngnnnaaGreatDoorSpO
namespace Go.Proofs.YtpjlibbdngnnnaaGreatDoor
set_option linter.unusedSimpArgs false
set_option linter.unusedVariables false

theorem countF_no : ∀ (l : List (List UInt8 × Nat)) (n : List UInt8) (k : Nat) (s : FS), n ∉ l.map (·.1) → countF l n k s = s
  | [], _, _, _, _ => rfl
  | d :: l, n, k, s, h => by
    simp only [List.map_cons, List.mem_cons, not_or] at h
    unfold countF
    rw [if_neg (fun q => h.1 q.1.symm)]
    exact countF_no l n k s h.2
theorem fold_no : ∀ (l : List (List UInt8 × Nat)) (n : List UInt8) (g : List UInt8 → Int), n ∉ l.map (·.1) → l.foldl (fun f d => fun y => if y = d.1 then (d.2 : Int) else f y) g n = g n
  | [], _, _, _ => rfl
  | d :: l, n, g, h => by
    simp only [List.map_cons, List.mem_cons, not_or] at h
    rw [List.foldl_cons, fold_no l n _ h.2]
    simp only [if_neg h.1]
theorem count_eq {D : List (List UInt8 × Nat)} (hD : (D.map (·.1)).Nodup) {n : List UInt8} (hn : n ∈ D.map (·.1)) (k : Nat) (s : FS) : countF D n k s = askF (decide ((k : Int) = cmF D n)) s 11 n := by
  obtain ⟨d, hd, rfl⟩ := List.mem_map.1 hn
  obtain ⟨a, b, rfl⟩ := List.append_of_mem hd
  rw [List.map_append, List.map_cons] at hD
  have ha : d.1 ∉ a.map (·.1) := fun q => (List.nodup_append.1 hD).2.2 d.1 q d.1 (by simp) rfl
  have hb : d.1 ∉ b.map (·.1) := (List.nodup_cons.1 (List.nodup_append.1 hD).2.1).1
  have hc : cmF (a ++ d :: b) d.1 = (d.2 : Int) := by
    unfold cmF
    rw [List.foldl_append, List.foldl_cons, fold_no b d.1 _ hb]
    simp
  rw [countF_app]
  show countF b d.1 k (if d.1 = d.1 ∧ d.2 ≠ k then fltS (countF a d.1 k s) 11 d.1 else countF a d.1 k s) = _
  rw [countF_no b _ _ _ hb, countF_no a _ _ _ ha, hc]
  unfold askF
  by_cases h : d.2 = k
  · rw [if_neg (fun q => q.2 h), if_pos (decide_eq_true (by omega))]
  · rw [if_pos ⟨rfl, h⟩, if_neg (by rw [decide_eq_false (by omega)]; exact Bool.false_ne_true)]
section
variable (cons : List (List UInt8))
mutual
/-- All constructors that are named are there. -/
def coE : TE → Prop
  | .mk k n _ _ ps ks bs al => (k = 2 → n ∈ cons) ∧ coK ks ∧ (k = 6 → coB bs) ∧ coA al
def coK : List TE → Prop
  | [] => True
  | e :: l => coE e ∧ coK l
def coB : List TB → Prop
  | [] => True
  | .mk _ _ e :: l => coE e ∧ coB l
def coA : List TA → Prop
  | [] => True
  | .mk k n _ _ _ e :: l => ((k = 0 → n ∈ cons) ∧ coE e) ∧ coA l
end
theorem conS_mem {n : List UInt8} {s : FS} (h : (conS cons n s).1 = 0) : n ∈ cons := by
  unfold conS at h
  by_cases q : n ∈ cons
  · exact q
  · rw [if_neg q] at h
    exact absurd h (flt_bad (by decide))
mutual
theorem scE_co : ∀ (e : TE) (i : List (List UInt8)) (s : FS), (scE cons e i s).1 = 0 → coE cons e
  | .mk k n _ _ ps ks bs al, i, s, h => by
    rw [scE] at h
    unfold coE
    by_cases h1 : k = 1
    · rw [if_pos h1] at h
      have hc : Stays (fun s => if n ∈ i then s else fltS s 4 n) := if_stays Stays.id (flt_stays (by decide) n)
      have q := (Stays.split (scA_stays cons al i) (Stays.comp (scK_stays cons ks i) hc)).1 h
      have q2 := (Stays.split (scK_stays cons ks i) hc).1 q.1
      exact ⟨fun z => by omega, scK_co ks i s q2.2, fun z => by omega, scA_co al i s q.2⟩
    rw [if_neg h1] at h
    by_cases h2 : k = 2
    · rw [if_pos h2] at h
      have q := (Stays.split (scA_stays cons al i) (Stays.comp (scK_stays cons ks i) (conS_stays cons n))).1 h
      have q2 := (Stays.split (scK_stays cons ks i) (conS_stays cons n)).1 q.1
      exact ⟨fun _ => conS_mem cons q2.1, scK_co ks i s q2.2, fun z => by omega, scA_co al i s q.2⟩
    rw [if_neg h2] at h
    by_cases h6 : k = 6
    · rw [if_pos h6] at h
      have q := (Stays.split (scA_stays cons al (i ++ nmB bs)) (Stays.comp (scK_stays cons ks (i ++ nmB bs)) (Stays.comp (scB_stays cons bs (i ++ nmB bs)) (twF_stays (nmB bs))))).1 h
      have q2 := (Stays.split (scK_stays cons ks (i ++ nmB bs)) (Stays.comp (scB_stays cons bs (i ++ nmB bs)) (twF_stays (nmB bs)))).1 q.1
      have q3 := (Stays.split (scB_stays cons bs (i ++ nmB bs)) (twF_stays (nmB bs))).1 q2.1
      exact ⟨fun z => absurd z h2, scK_co ks _ s q2.2, fun _ => scB_co bs _ s q3.2, scA_co al _ s q.2⟩
    rw [if_neg h6] at h
    by_cases h8 : k = 8
    · rw [if_pos h8] at h
      have q := (Stays.split (scA_stays cons al (i ++ ps)) (Stays.comp (scK_stays cons ks (i ++ ps)) (twF_stays ps))).1 h
      have q2 := (Stays.split (scK_stays cons ks (i ++ ps)) (twF_stays ps)).1 q.1
      exact ⟨fun z => absurd z h2, scK_co ks _ s q2.2, fun z => absurd z h6, scA_co al _ s q.2⟩
    rw [if_neg h8] at h
    have q := (Stays.split (scA_stays cons al i) (scK_stays cons ks i)).1 h
    exact ⟨fun z => absurd z h2, scK_co ks i s q.1, fun z => absurd z h6, scA_co al i s q.2⟩
theorem scK_co : ∀ (l : List TE) (i : List (List UInt8)) (s : FS), (scK cons l i s).1 = 0 → coK cons l
  | [], _, _, _ => trivial
  | e :: l, i, s, h => by
    rw [scK] at h
    have q := (Stays.split (scK_stays cons l i) (scE_stays cons e i)).1 h
    exact ⟨scE_co e i s q.1, scK_co l i s q.2⟩
theorem scB_co : ∀ (l : List TB) (i : List (List UInt8)) (s : FS), (scB cons l i s).1 = 0 → coB cons l
  | [], _, _, _ => trivial
  | .mk n p e :: l, i, s, h => by
    rw [scB] at h
    have q := (Stays.split (scB_stays cons l i) (Stays.comp (scE_stays cons e (i ++ p)) (twF_stays p))).1 h
    have q2 := (Stays.split (scE_stays cons e (i ++ p)) (twF_stays p)).1 q.1
    exact ⟨scE_co e _ s q2.2, scB_co l i s q.2⟩
theorem scA_co : ∀ (l : List TA) (i : List (List UInt8)) (s : FS), (scA cons l i s).1 = 0 → coA cons l
  | [], _, _, _ => trivial
  | .mk k n _ _ ns e :: l, i, s, h => by
    rw [scA] at h
    by_cases h0 : k = 0
    · simp only [if_pos h0] at h
      have q := (Stays.split (scA_stays cons l i) (Stays.comp (scE_stays cons e (i ++ ns)) (Stays.comp (twF_stays ns) (conS_stays cons n)))).1 h
      have q2 := (Stays.split (scE_stays cons e (i ++ ns)) (Stays.comp (twF_stays ns) (conS_stays cons n))).1 q.1
      have q3 := (Stays.split (twF_stays ns) (conS_stays cons n)).1 q2.1
      exact ⟨⟨fun _ => conS_mem cons q3.1, scE_co e _ s q2.2⟩, scA_co l i s q.2⟩
    · by_cases h2 : k = 2
      · simp only [if_neg h0, if_pos h2] at h
        have q := (Stays.split (scA_stays cons l i) (scE_stays cons e (i ++ [n]))).1 h
        exact ⟨⟨fun z => absurd z h0, scE_co e _ s q.1⟩, scA_co l i s q.2⟩
      · simp only [if_neg h0, if_neg h2] at h
        have q := (Stays.split (scA_stays cons l i) (scE_stays cons e i)).1 h
        exact ⟨⟨fun z => absurd z h0, scE_co e _ s q.1⟩, scA_co l i s q.2⟩
end
end
mutual
/-- Binds stand in lets alone. -/
def nbE : TE → Prop
  | .mk k _ _ _ ps ks bs al => (k ≠ 6 → bs = []) ∧ nbK ks ∧ nbB bs ∧ nbA al
def nbK : List TE → Prop
  | [] => True
  | e :: l => nbE e ∧ nbK l
def nbB : List TB → Prop
  | [] => True
  | .mk _ _ e :: l => nbE e ∧ nbB l
def nbA : List TA → Prop
  | [] => True
  | .mk _ _ _ _ _ e :: l => nbE e ∧ nbA l
end
section
variable {L : List TokV}
mutual
theorem wf_nb : ∀ e : TE, wfE L e → nbE e
  | .mk k n fl bi ps ks bs al, h => by
    unfold wfE at h
    obtain ⟨hs, hk, hb, ha⟩ := h
    have ik := wf_nbK ks hk
    have ib := wf_nbB bs hb
    have ia := wf_nbA al ha
    unfold nbE
    refine ⟨fun z => ?_, ik, ib, ia⟩
    unfold shE at hs
    rcases hs with ⟨rfl, q, _, _, rfl, rfl, rfl, rfl⟩ | ⟨rfl, q, _, _, rfl, rfl, rfl⟩ | ⟨rfl, rfl, _, rfl, rfl, rfl, rfl⟩ | ⟨rfl, rfl, _, _, _, rfl, rfl, rfl⟩ | ⟨rfl, q, _, _, rfl, rfl, rfl⟩ | ⟨rfl, rfl, _, _, _, _, rfl, rfl⟩ | ⟨rfl, rfl, _, _, _, rfl, rfl⟩ | ⟨rfl, rfl, _, _, _, _, q, rfl, rfl⟩
    all_goals first | rfl | exact absurd rfl z
theorem wf_nbK : ∀ l : List TE, wfK L l → nbK l
  | [], _ => trivial
  | e :: l, h => by
    unfold wfK at h
    exact ⟨wf_nb e h.1, wf_nbK l h.2⟩
theorem wf_nbB : ∀ l : List TB, wfB L l → nbB l
  | [], _ => trivial
  | .mk n p e :: l, h => by
    unfold wfB at h
    exact ⟨wf_nb e h.1.2.2, wf_nbB l h.2⟩
theorem wf_nbA : ∀ l : List TA, wfA L l → nbA l
  | [], _ => trivial
  | .mk k n f b p e :: l, h => by
    unfold wfA at h
    exact ⟨wf_nb e h.1.2, wf_nbA l h.2⟩
end
end
section
variable {D : List (List UInt8 × Nat)} {cons : List (List UInt8)}
mutual
theorem zE_eq (hc : ∀ n ∈ cons, ∀ (k : Nat) (s : FS), countF D n k s = askF (decide ((k : Int) = cmF D n)) s 11 n) : ∀ (e : TE) (s : FS), nbE e → coE cons e → zE D e s = arE (cmF D) e s
  | .mk k n _ _ ps ks bs al, s, hn, h => by
    unfold nbE at hn
    unfold coE at h
    obtain ⟨n6, nk, nb, na⟩ := hn
    obtain ⟨h2, hk, h6, ha⟩ := h
    rw [zE, arE]
    have e1 : askZ D k n ps ks.length s = askE (cmF D) k n ps ks.length s := by
      unfold askZ askE
      by_cases q : k = 2
      · rw [if_pos q, if_pos q]
        exact hc n (h2 q) _ _
      · rw [if_neg q, if_neg q]
    rw [e1]
    have e2 : ∀ s, zB D bs s = arB (cmF D) bs s := fun s => by
      by_cases q : k = 6
      · exact zB_eq hc bs s nb (h6 q)
      · rw [n6 q, zB, arB]
    rw [e2, zK_eq hc ks _ nk hk, zA_eq hc al _ na ha]
theorem zK_eq (hc : ∀ n ∈ cons, ∀ (k : Nat) (s : FS), countF D n k s = askF (decide ((k : Int) = cmF D n)) s 11 n) : ∀ (l : List TE) (s : FS), nbK l → coK cons l → zK D l s = arK (cmF D) l s
  | [], s, _, _ => by rw [zK, arK]
  | e :: l, s, hn, h => by
    rw [zK, arK, zE_eq hc e s hn.1 h.1, zK_eq hc l _ hn.2 h.2]
theorem zB_eq (hc : ∀ n ∈ cons, ∀ (k : Nat) (s : FS), countF D n k s = askF (decide ((k : Int) = cmF D n)) s 11 n) : ∀ (l : List TB) (s : FS), nbB l → coB cons l → zB D l s = arB (cmF D) l s
  | [], s, _, _ => by rw [zB, arB]
  | .mk n p e :: l, s, hn, h => by
    rw [zB, arB, zE_eq hc e _ hn.1 h.1, zB_eq hc l _ hn.2 h.2]
theorem zA_eq (hc : ∀ n ∈ cons, ∀ (k : Nat) (s : FS), countF D n k s = askF (decide ((k : Int) = cmF D n)) s 11 n) : ∀ (l : List TA) (s : FS), nbA l → coA cons l → zA D l s = arA (cmF D) l s
  | [], s, _, _ => by rw [zA, arA]
  | .mk k n _ _ ns e :: l, s, hn, h => by
    rw [zA, arA]
    have e1 : (if k = 0 then countF D n ns.length s else s) = if k = 0 then askF (decide ((ns.length : Int) = cmF D n)) s 11 n else s := by
      by_cases q : k = 0
      · rw [if_pos q, if_pos q]
        exact hc n (h.1.1 q) _ _
      · rw [if_neg q, if_neg q]
    rw [e1, zE_eq hc e _ hn.1 h.1.2, zA_eq hc l _ hn.2 h.2]
end
end
/-- The document's first fault of a module. -/
def zF (m : TM) : FS := if (chkF m).1 = 0 then zB (fullD m) m.binds (mnF m.binds noF) else chkF m
theorem zF_eq {m : TM} (hn : nbB m.binds) : zF m = arF m := by
  unfold zF arF
  by_cases h : (chkF m).1 = 0
  · rw [if_pos h, if_pos h]
    have hz := (chk_zero m).1 h
    have hd : ((fullD m).map (·.1)).Nodup := by rw [fullD_names]; exact (twF_nodup _).1 hz.1
    have hco : coB (consN m) m.binds := by
      have hb := hz.2.2.2
      generalize nmB m.binds = G at hb
      generalize m.binds = l at hb
      induction l with
      | nil => exact trivial
      | cons b l ih =>
        obtain ⟨n, p, e⟩ := b
        refine ⟨?_, ih (fun b q => hb b (by simp [q]))⟩
        have h1 := hb (.mk n p e) (by simp)
        unfold bodyF at h1
        rw [firstF_zero] at h1
        exact scE_co (consN m) e _ noF (h1 (scE (consN m) e (G ++ p) noF) (by simp [TB.params, TB.body]))
    exact zB_eq (cons := consN m) (hc := fun n hn k s => count_eq hd (by rw [fullD_names]; exact hn) k s) m.binds _ hn hco
  · rw [if_neg h, if_neg h]
end Go.Proofs.YtpjlibbdngnnnaaGreatDoor
