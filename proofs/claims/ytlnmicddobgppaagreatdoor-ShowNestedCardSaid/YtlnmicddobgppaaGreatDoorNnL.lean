/-
  Trees that a source tells without a fault (layer 8): their shapes, their names; how many they are. No conditions.
-/
import Derived.Test.YtlnmicddobgppaaGreatDoorNnC
namespace Go.Proofs.YtlnmicddobgppaaGreatDoor
set_option linter.unusedSimpArgs false
set_option linter.unusedVariables false
def isT (L : List TokV) (k : Int) (n : List UInt8) : Prop := ∃ t ∈ L, t.kind = k ∧ t.text = n
def isN (L : List TokV) (f : Bool) (b : Nat) : Prop := ∃ t ∈ L, t.kind = 3 ∧ t.flt = f ∧ t.bits = b
def shE (L : List TokV) (k : Nat) (n : List UInt8) (fl : Bool) (bi : Nat) (ps : List (List UInt8)) (ks : List TE) (bs : List TB) (al : List TA) : Prop :=
 (k = 1 ∧ isT L 1 n ∧ fl = false ∧ bi = 0 ∧ ps = [] ∧ ks = [] ∧ bs = [] ∧ al = []) ∨
 (k = 2 ∧ isT L 2 n ∧ fl = false ∧ bi = 0 ∧ ps = [] ∧ bs = [] ∧ al = []) ∨
 (k = 3 ∧ n = [] ∧ isN L fl bi ∧ ps = [] ∧ ks = [] ∧ bs = [] ∧ al = []) ∨
 (k = 4 ∧ n = [] ∧ fl = false ∧ bi = 0 ∧ 2 ≤ ks.length ∧ ps = [] ∧ bs = [] ∧ al = []) ∨
 (k = 5 ∧ (isT L 7 n ∨ isT L 4 n ∧ ks.length = 2) ∧ fl = false ∧ bi = 0 ∧ ps = [] ∧ bs = [] ∧ al = []) ∨
 (k = 6 ∧ n = [] ∧ fl = false ∧ bi = 0 ∧ ks.length = 1 ∧ bs ≠ [] ∧ ps = [] ∧ al = []) ∨
 (k = 7 ∧ n = [] ∧ fl = false ∧ bi = 0 ∧ ks.length = 1 ∧ ps = [] ∧ bs = []) ∨
 (k = 8 ∧ n = [] ∧ fl = false ∧ bi = 0 ∧ ks.length = 1 ∧ ps ≠ [] ∧ (∀ x ∈ ps, isT L 1 x) ∧ bs = [] ∧ al = [])
mutual
def wfE (L : List TokV) : TE → Prop
 | .mk k n fl bi ps ks bs al => shE L k n fl bi ps ks bs al ∧ wfK L ks ∧ wfB L bs ∧ wfA L al
def wfK (L : List TokV) : List TE → Prop
 | [] => True
 | e :: l => wfE L e ∧ wfK L l
def wfB (L : List TokV) : List TB → Prop
 | [] => True
 | .mk n ps e :: l => (isT L 1 n ∧ (∀ x ∈ ps, isT L 1 x) ∧ wfE L e) ∧ wfB L l
def wfA (L : List TokV) : List TA → Prop
 | [] => True
 | .mk k n fl bi ns e :: l => (((k = 0 ∧ isT L 2 n ∧ fl = false ∧ bi = 0 ∧ ∀ x ∈ ns, isT L 1 x) ∨ (k = 1 ∧ n = [] ∧ isN L fl bi ∧ ns = []) ∨ (k = 2 ∧ isT L 1 n ∧ fl = false ∧ bi = 0 ∧ ns = [])) ∧ wfE L e) ∧ wfA L l
end
mutual
def wtE : TE → Nat
 | .mk k _ _ _ ps ks bs al => (if k = 1 then 1 else 0) + ps.length + wtK ks + wtB bs + wtA al
def wtK : List TE → Nat
 | [] => 0
 | e :: l => wtE e + wtK l
def wtB : List TB → Nat
 | [] => 0
 | .mk _ p e :: l => (1 + p.length + wtE e) + wtB l
def wtA : List TA → Nat
 | [] => 0
 | .mk _ _ _ _ p e :: l => (1 + p.length + wtE e) + wtA l
end
section
variable {L : List TokV}
theorem wtK_app (a b : List TE) : wtK (a ++ b) = wtK a + wtK b := by
 induction a with
 | nil => simp [wtK]
 | cons x l ih => simp [wtK, ih]; omega
theorem wtB_app (a b : List TB) : wtB (a ++ b) = wtB a + wtB b := by
 induction a with
 | nil => simp [wtB]
 | cons x l ih => obtain ⟨n, p, e⟩ := x; simp [wtB, ih]; omega
theorem wtA_app (a b : List TA) : wtA (a ++ b) = wtA a + wtA b := by
 induction a with
 | nil => simp [wtA]
 | cons x l ih => obtain ⟨k, n, f, b, p, e⟩ := x; simp [wtA, ih]; omega
theorem wfK_app (a b : List TE) : wfK L (a ++ b) ↔ wfK L a ∧ wfK L b := by
 induction a with
 | nil => simp [wfK]
 | cons x l ih => simp [wfK, ih, and_assoc]
theorem wfB_app (a b : List TB) : wfB L (a ++ b) ↔ wfB L a ∧ wfB L b := by
 induction a with
 | nil => simp [wfB]
 | cons x l ih => obtain ⟨n, p, e⟩ := x; simp [wfB, ih, and_assoc]
theorem wfA_app (a b : List TA) : wfA L (a ++ b) ↔ wfA L a ∧ wfA L b := by
 induction a with
 | nil => simp [wfA]
 | cons x l ih => obtain ⟨k, n, f, b, p, e⟩ := x; simp [wfA, ih, and_assoc]
theorem fault_bad {e : Nat} {s : PS} (he : e ≠ 0) : ¬ (faultF L e s).e = 0 := (fault_goes he).2.1
theorem need_ok {x : List UInt8} {s : PS} (h : (needF L x s).e = 0) : s.e = 0 ∧ s.at_ + 1 = (needF L x s).at_ := by
 unfold needF at h ⊢
 split
 · rename_i q; exact ⟨q.1, rfl⟩
 · rename_i q; rw [if_neg q] at h; exact absurd h (fault_bad (by decide))
theorem kind_mem {s : PS} {k : Int} (h : kindP L s = k) (hk : k ≠ 0) : (L[s.at_]?.getD (none_ 0)) ∈ L ∧ (L[s.at_]?.getD (none_ 0)).kind = k := by
 have hl := kind_lt h hk
 unfold kindP at h
 rw [List.getElem?_eq_getElem hl] at h ⊢
 exact ⟨List.getElem_mem hl, h⟩
theorem token_ok2 {k : Int} {s : PS} (hk : k ≠ 0) (h : (tokenF L k s).2.e = 0) : s.e = 0 ∧ s.at_ + 1 = (tokenF L k s).2.at_ ∧ (tokenF L k s).1 ∈ L ∧ (tokenF L k s).1.kind = k := by
 unfold tokenF at h ⊢
 split
 · rename_i q
   have := kind_mem q.2 hk
   exact ⟨q.1, rfl, this.1, this.2⟩
 · rename_i q; rw [if_neg q] at h; exact absurd h (fault_bad (by decide))
theorem token_text {k : Int} {s : PS} (hk : k ≠ 0) (h : (tokenF L k s).2.e = 0) : isT L k (tokenF L k s).1.text := ⟨_, (token_ok2 hk h).2.2.1, (token_ok2 hk h).2.2.2, rfl⟩
theorem goes_ok {s t : PS} (h : Goes L s t) (he : t.e = 0) : s.e = 0 := by
 by_cases q : s.e = 0
 · exact q
 · exact absurd he (h.er q)
theorem names_ok : ∀ (n : Nat) (least : Bool) (acc : List (List UInt8)) (s : PS), (namesF L n least acc s).2.e = 0 →
 (∀ x ∈ (namesF L n least acc s).1, x ∈ acc ∨ isT L 1 x) ∧ (namesF L n least acc s).1.length + s.at_ = acc.length + (namesF L n least acc s).2.at_ ∧ acc.length ≤ (namesF L n least acc s).1.length ∧ (least = true → 0 < n → acc.length < (namesF L n least acc s).1.length)
 | 0, _, acc, s, h => ⟨fun x hx => .inl hx, rfl, Nat.le_refl _, fun _ q => absurd q (Nat.not_lt_zero 0)⟩
 | n + 1, least, acc, s, h => by
  unfold namesF at h ⊢
  by_cases hc : s.e = 0 ∧ (least = true ∨ kindP L s = 1)
  · rw [if_pos hc] at h ⊢
    have ih := names_ok n false _ _ h
    have ht := goes_ok (names_goes n _ _ _) h
    have tk := token_ok2 (k := 1) (by decide) ht
    obtain ⟨i1, i2, i3, _⟩ := ih
    simp only [List.length_append, List.length_singleton] at i2 i3
    refine ⟨fun x hx => ?_, by omega, by omega, fun _ _ => by omega⟩
    rcases i1 x hx with q | q
    · rcases List.mem_append.1 q with q | q
      · exact .inl q
      · rw [List.mem_singleton] at q
        exact .inr (q ▸ token_text (by decide) ht)
    · exact .inr q
  · rw [if_neg hc] at h ⊢
    refine ⟨fun x hx => .inl hx, rfl, Nat.le_refl _, fun q _ => ?_⟩
    exact absurd ⟨h, .inl q⟩ hc
theorem data_goes_ (L : List TokV) : ∀ (n : Nat) (acc : List (List UInt8 × Nat)) (s : PS), Goes L s (dataF L n acc s).2
 | 0, _, s => Goes.refl _ _
 | n + 1, acc, s => by
  unfold dataF
  split
  · refine Goes.trans (Goes.trans (Goes.trans (token_goes (k := 2) (by decide) s) ?_) (token_goes (k := 3) (by decide) _)) (data_goes_ L n _ _)
    split
    · split
      · exact (fault_goes (by decide)).1
      · exact Goes.refl _ _
    · exact Goes.refl _ _
  · exact Goes.refl _ _
def OkE (L : List TokV) (f : PS → TE × PS) : Prop := ∀ s, (f s).2.e = 0 → wfE L (f s).1 ∧ wtE (f s).1 + s.at_ ≤ (f s).2.at_
variable {ex : PS → TE × PS} (hgo : ∀ s, Goes L s (ex s).2) (hex : OkE L ex)
include hgo hex
theorem bind_ok (s : PS) (h : (bindF L ex s).2.e = 0) : wfB L [(bindF L ex s).1] ∧ wtB [(bindF L ex s).1] + s.at_ ≤ (bindF L ex s).2.at_ := by
 unfold bindF at h ⊢
 simp only at h ⊢
 have h1 := hex _ h
 have h2 := goes_ok (hgo _) h
 have h3 := need_ok h2
 have h4 := names_ok _ _ _ _ h3.1
 obtain ⟨l, hl⟩ : ∃ l, (namesF L (fuelP L) true [] s).1 = l := ⟨_, rfl⟩
 rw [hl] at h4 ⊢
 simp only [List.length_nil, Nat.zero_add] at h4
 have h5 := h4.2.2.2 (by trivial) (by unfold fuelP; omega)
 cases l with
 | nil => simp at h5
 | cons n r =>
  simp only [List.headD, List.tail, wfB, wtB]
  simp only [List.length_cons] at h4
  refine ⟨⟨⟨?_, fun x hx => ?_, h1.1⟩, trivial⟩, by omega⟩
  · exact (h4.1 n (by simp)).resolve_left (by simp)
  · exact (h4.1 x (by simp [hx])).resolve_left (by simp)
theorem alt_ok (s : PS) (h : (altF L ex s).2.e = 0) : wfA L [(altF L ex s).1] ∧ wtA [(altF L ex s).1] + s.at_ ≤ (altF L ex s).2.at_ := by
 unfold altF at h ⊢
 simp only at h ⊢
 have h1 := hex _ h
 have h2 := goes_ok (hgo _) h
 have h3 := need_ok h2
 unfold altHead at h1 h2 h3 ⊢
 split at h3
 · rename_i hk
   rw [if_pos hk] at h1 ⊢
   have h4 := names_ok _ _ _ _ h3.1
   have h5 := goes_ok (names_goes _ _ _ _) h3.1
   have h6 := token_ok2 (k := 2) (by decide) h5
   have h7 := token_text (k := 2) (by decide) h5
   simp only [wfA, wtA] at *
   simp only [List.length_nil, Nat.zero_add] at h4
   refine ⟨⟨⟨.inl ⟨trivial, h7, trivial, trivial, fun x hx => (h4.1 x hx).resolve_left (by simp)⟩, h1.1⟩, trivial⟩, by omega⟩
 · rename_i hk
   rw [if_neg hk] at h1 ⊢
   split at h3
   · rename_i hk3
     rw [if_pos hk3] at h1 ⊢
     have h6 := token_ok2 (k := 3) (by decide) h3.1
     simp only [wfA, wtA, List.length_nil] at *
     refine ⟨⟨⟨.inr (.inl ⟨trivial, trivial, ⟨_, h6.2.2.1, h6.2.2.2, rfl, rfl⟩, trivial⟩), h1.1⟩, trivial⟩, by omega⟩
   · rename_i hk3
     rw [if_neg hk3] at h1 ⊢
     have h6 := token_ok2 (k := 1) (by decide) h3.1
     have h7 := token_text (k := 1) (by decide) h3.1
     simp only [wfA, wtA, List.length_nil] at *
     refine ⟨⟨⟨.inr (.inr ⟨trivial, h7, trivial, trivial, trivial⟩), h1.1⟩, trivial⟩, by omega⟩
omit hgo hex in
theorem leaf_ok {k : Nat} {n : List UInt8} {fl : Bool} {bi : Nat} (h : shE L k n fl bi [] [] [] []) : wfE L (.mk k n fl bi [] [] [] []) := ⟨h, trivial, trivial, trivial⟩
theorem atoms_ok : ∀ (n : Nat) (acc : List TE) (s : PS), (atomsF L ex n acc s).2.e = 0 → wfK L acc →
 wfK L (atomsF L ex n acc s).1 ∧ wtK (atomsF L ex n acc s).1 + s.at_ ≤ wtK acc + (atomsF L ex n acc s).2.at_
 | 0, acc, s, h, ha => ⟨ha, Nat.le_refl _⟩
 | n + 1, acc, s, h, ha => by
  unfold atomsF at h ⊢
  by_cases he : s.e ≠ 0
  · rw [if_pos he] at h ⊢
    exact ⟨ha, Nat.le_refl _⟩
  rw [if_neg he] at h ⊢
  by_cases h1 : kindP L s = 1
  · rw [if_pos h1] at h ⊢
    have ht := goes_ok (atoms_goes hgo n _ _) h
    have tk := token_ok2 (k := 1) (by decide) ht
    have tt := token_text (k := 1) (by decide) ht
    have ih := atoms_ok n _ _ h ((wfK_app _ _).2 ⟨ha, leaf_ok (.inl ⟨rfl, tt, rfl, rfl, rfl, rfl, rfl, rfl⟩), trivial⟩)
    rw [wtK_app] at ih
    simp only [wtK, wtE, wtB, wtA, List.length_nil, if_true] at ih
    exact ⟨ih.1, by omega⟩
  rw [if_neg h1] at h ⊢
  by_cases h2 : kindP L s = 2
  · rw [if_pos h2] at h ⊢
    have ht := goes_ok (atoms_goes hgo n _ _) h
    have tk := token_ok2 (k := 2) (by decide) ht
    have tt := token_text (k := 2) (by decide) ht
    have ih := atoms_ok n _ _ h ((wfK_app _ _).2 ⟨ha, leaf_ok (.inr (.inl ⟨rfl, tt, rfl, rfl, rfl, rfl, rfl⟩)), trivial⟩)
    rw [wtK_app] at ih
    simp only [wtK, wtE, wtB, wtA, List.length_nil, show ¬ (2 : Nat) = 1 by decide, if_false] at ih
    exact ⟨ih.1, by omega⟩
  rw [if_neg h2] at h ⊢
  by_cases h7 : kindP L s = 7
  · rw [if_pos h7] at h ⊢
    have ht := goes_ok (atoms_goes hgo n _ _) h
    have tk := token_ok2 (k := 7) (by decide) ht
    have tt := token_text (k := 7) (by decide) ht
    have ih := atoms_ok n _ _ h ((wfK_app _ _).2 ⟨ha, leaf_ok (.inr (.inr (.inr (.inr (.inl ⟨rfl, .inl tt, rfl, rfl, rfl, rfl, rfl⟩))))), trivial⟩)
    rw [wtK_app] at ih
    simp only [wtK, wtE, wtB, wtA, List.length_nil, show ¬ (5 : Nat) = 1 by decide, if_false] at ih
    exact ⟨ih.1, by omega⟩
  rw [if_neg h7] at h ⊢
  by_cases h3 : kindP L s = 3
  · rw [if_pos h3] at h ⊢
    have ht := goes_ok (atoms_goes hgo n _ _) h
    have tk := token_ok2 (k := 3) (by decide) ht
    have ih := atoms_ok n _ _ h ((wfK_app _ _).2 ⟨ha, leaf_ok (.inr (.inr (.inl ⟨rfl, rfl, ⟨_, tk.2.2.1, tk.2.2.2, rfl, rfl⟩, rfl, rfl, rfl, rfl⟩))), trivial⟩)
    rw [wtK_app] at ih
    simp only [wtK, wtE, wtB, wtA, List.length_nil, show ¬ (3 : Nat) = 1 by decide, if_false] at ih
    exact ⟨ih.1, by omega⟩
  rw [if_neg h3] at h ⊢
  by_cases hs : seesF L [40] s = false
  · rw [if_pos hs] at h ⊢
    exact ⟨ha, Nat.le_refl _⟩
  rw [if_neg hs] at h ⊢
  have ht := need_ok (goes_ok (atoms_goes hgo n _ _) h)
  have hx := hex _ ht.1
  have ih := atoms_ok n _ _ h ((wfK_app _ _).2 ⟨ha, hx.1, trivial⟩)
  rw [wtK_app] at ih
  simp only [wtK] at ih
  have h5 := hx.2
  simp only at h5
  exact ⟨ih.1, by omega⟩
omit hgo hex in
theorem atoms_pre : ∀ (n : Nat) (acc : List TE) (s : PS), ∃ r, (atomsF L ex n acc s).1 = acc ++ r
 | 0, acc, s => ⟨[], by unfold atomsF; simp⟩
 | n + 1, acc, s => by
  have step : ∀ (a : TE) (t : PS), ∃ r, (atomsF L ex n (acc ++ [a]) t).1 = acc ++ r := fun a t => by
   obtain ⟨r, hr⟩ := atoms_pre n (acc ++ [a]) t
   exact ⟨a :: r, by rw [hr]; simp⟩
  unfold atomsF
  split
  · exact ⟨[], by simp⟩
  · split
    · exact step _ _
    · split
      · exact step _ _
      · split
        · exact step _ _
        · split
          · exact step _ _
          · split
            · exact ⟨[], by simp⟩
            · exact step _ _
theorem row_ok : OkE L (rowF L ex) := fun s h => by
 have hat := atoms_ok hgo hex (fuelP L) [] s
 have hpre : s.e = 0 → kindP L s = 2 ∨ kindP L s = 7 → ∃ e r, (atomsF L ex (fuelP L) [] s).1 = e :: r ∧ ∃ k n, e = .mk k n false 0 [] [] [] [] ∧ (k = 2 ∨ k = 5) := fun he hk => by
  unfold fuelP
  unfold atomsF
  rw [if_neg (by simpa using he)]
  rcases hk with hk | hk
  · rw [if_neg (by rw [hk]; decide), if_pos hk]
    obtain ⟨r, hr⟩ := atoms_pre (L := L) (ex := ex) (L.length + 1) ([] ++ [.mk 2 (tokenF L 2 s).1.text false 0 [] [] [] []]) (tokenF L 2 s).2
    exact ⟨_, r, by rw [hr]; simp only [List.nil_append, List.cons_append]; rfl, 2, _, rfl, .inl rfl⟩
  · rw [if_neg (by rw [hk]; decide), if_neg (by rw [hk]; decide), if_pos hk]
    obtain ⟨r, hr⟩ := atoms_pre (L := L) (ex := ex) (L.length + 1) ([] ++ [.mk 5 (tokenF L 7 s).1.text false 0 [] [] [] []]) (tokenF L 7 s).2
    exact ⟨_, r, by rw [hr]; simp only [List.nil_append, List.cons_append]; rfl, 5, _, rfl, .inr rfl⟩
 have hg := atoms_goes hgo (fuelP L) [] s
 unfold rowF at h ⊢
 generalize atomsF L ex (fuelP L) [] s = p at h hat hpre hg ⊢
 obtain ⟨l, t⟩ := p
 rcases l with _ | ⟨e, _ | ⟨e2, r⟩⟩
 · exact absurd h (fault_bad (by decide))
 · dsimp only at h hat ⊢
   obtain ⟨a1, a2⟩ := hat h trivial
   simp only [wfK, wtK] at a1 a2
   exact ⟨a1.1, by omega⟩
 · dsimp only at h hat hg ⊢
   split at h
   · rename_i hk
     rw [if_pos hk]
     obtain ⟨a1, a2⟩ := hat h trivial
     obtain ⟨e', r', hr, k, n, rfl, hkk⟩ := hpre (goes_ok hg h) hk
     injection hr with hr1 hr2
     subst hr1 hr2
     simp only [wfK, wtK, wfE, wtE, TE.withKids, wtB, wtA, wfB, wfA, List.length_nil] at a1 a2 ⊢
     refine ⟨⟨?_, a1.2, trivial, trivial⟩, by omega⟩
     rcases a1.1.1 with q | q | q | q | q | q | q | q
     · rcases hkk with z | z <;> (rw [z] at q; exact absurd q.1 (by decide))
     · exact .inr (.inl ⟨q.1, q.2.1, rfl, rfl, rfl, rfl, rfl⟩)
     · rcases hkk with z | z <;> (rw [z] at q; exact absurd q.1 (by decide))
     · rcases hkk with z | z <;> (rw [z] at q; exact absurd q.1 (by decide))
     · refine .inr (.inr (.inr (.inr (.inl ⟨q.1, ?_, rfl, rfl, rfl, rfl, rfl⟩))))
       rcases q.2.1 with y | y
       · exact .inl y
       · exact absurd y.2 (by simp)
     · rcases hkk with z | z <;> (rw [z] at q; exact absurd q.1 (by decide))
     · rcases hkk with z | z <;> (rw [z] at q; exact absurd q.1 (by decide))
     · rcases hkk with z | z <;> (rw [z] at q; exact absurd q.1 (by decide))
   · rename_i hk
     rw [if_neg hk]
     obtain ⟨a1, a2⟩ := hat h trivial
     simp only [wfK, wtK, wfE, wtE, wtB, wtA, wfB, wfA, List.length_nil, show ¬ (4 : Nat) = 1 by decide, if_false] at a1 a2 ⊢
     exact ⟨⟨.inr (.inr (.inr (.inl ⟨rfl, rfl, rfl, rfl, by simp, rfl, rfl, rfl⟩))), a1, trivial, trivial⟩, by omega⟩
theorem binds_ok : ∀ (n : Nat) (acc : List TB) (s : PS), (bindsF L ex n acc s).2.e = 0 → wfB L acc →
 wfB L (bindsF L ex n acc s).1 ∧ wtB (bindsF L ex n acc s).1 + s.at_ ≤ wtB acc + (bindsF L ex n acc s).2.at_ ∧ (acc ≠ [] → (bindsF L ex n acc s).1 ≠ [])
 | 0, acc, s, h, ha => ⟨ha, Nat.le_refl _, id⟩
 | n + 1, acc, s, h, ha => by
  unfold bindsF at h ⊢
  split at h
  · rename_i hc
    rw [if_pos hc]
    have ht := goes_ok (binds_goes hgo n _ _) h
    have hb := bind_ok hgo hex _ ht
    have ih := binds_ok n _ _ h ((wfB_app _ _).2 ⟨ha, hb.1⟩)
    rw [wtB_app] at ih
    have h5 := hb.2
    simp only at h5
    exact ⟨ih.1, by omega, fun _ => ih.2.2 (by simp)⟩
  · rename_i hc
    rw [if_neg hc]
    exact ⟨ha, Nat.le_refl _, id⟩
theorem alts_ok : ∀ (n : Nat) (acc : List TA) (s : PS), (altsF L ex n acc s).2.e = 0 → wfA L acc →
 wfA L (altsF L ex n acc s).1 ∧ wtA (altsF L ex n acc s).1 + s.at_ ≤ wtA acc + (altsF L ex n acc s).2.at_
 | 0, acc, s, h, ha => ⟨ha, Nat.le_refl _⟩
 | n + 1, acc, s, h, ha => by
  unfold altsF at h ⊢
  split at h
  · rename_i hc
    rw [if_pos hc]
    have ht := goes_ok (alts_goes hgo n _ _) h
    have hb := alt_ok hgo hex _ ht
    have ih := alts_ok n _ _ h ((wfA_app _ _).2 ⟨ha, hb.1⟩)
    rw [wtA_app] at ih
    have h5 := hb.2
    simp only at h5
    exact ⟨ih.1, by omega⟩
  · rename_i hc
    rw [if_neg hc]
    exact ⟨ha, Nat.le_refl _⟩
theorem choice_ok : OkE L (choiceF L ex) := fun s h => by
 unfold choiceF at h ⊢
 simp only at h ⊢
 split at h
 · rename_i hc
   rw [if_pos hc]
   have h2 := need_ok hc.1
   have h3 := need_ok h2.1
   have hx := hex _ h3.1
   simp only at hx ⊢
   simp only [wfE, wfK, wfB, wfA, wtE, wtK, wtB, wtA, List.length_nil, show ¬ (7 : Nat) = 1 by decide, if_false]
   exact ⟨⟨.inr (.inr (.inr (.inr (.inr (.inr (.inl ⟨rfl, rfl, rfl, rfl, rfl, rfl, rfl⟩)))))), ⟨hx.1, trivial⟩, trivial, trivial⟩, by omega⟩
 · rename_i hc
   rw [if_neg hc]
   have h1 := need_ok h
   have h4 := goes_ok (alts_goes hgo _ _ _) h1.1
   have ha := alt_ok hgo hex _ h4
   have hl := alts_ok hgo hex _ _ _ h1.1 ha.1
   have h2 := need_ok (goes_ok (alt_goes hgo _) h4)
   have h3 := need_ok h2.1
   have hx := hex _ h3.1
   simp only at hx hl ha ⊢
   simp only [wfE, wfK, wfB, wtE, wtK, wtB, List.length_nil, show ¬ (7 : Nat) = 1 by decide, if_false]
   exact ⟨⟨.inr (.inr (.inr (.inr (.inr (.inr (.inl ⟨rfl, rfl, rfl, rfl, rfl, rfl, rfl⟩)))))), ⟨hx.1, trivial⟩, trivial, hl.1⟩, by omega⟩
theorem let_ok : OkE L (letF L ex) := fun s h => by
 unfold letF at h ⊢
 simp only at h ⊢
 have hx := hex _ h
 have h1 := need_ok (goes_ok (hgo _) h)
 have h4 := goes_ok (binds_goes hgo _ _ _) h1.1
 have ha := bind_ok hgo hex _ h4
 have hl := binds_ok hgo hex _ _ _ h1.1 ha.1
 simp only at hx hl ha ⊢
 simp only [wfE, wfK, wfA, wtE, wtK, wtA, List.length_nil, show ¬ (6 : Nat) = 1 by decide, if_false]
 exact ⟨⟨.inr (.inr (.inr (.inr (.inr (.inl ⟨rfl, rfl, rfl, rfl, rfl, hl.2.2 (by simp), rfl, rfl⟩))))), ⟨hx.1, trivial⟩, hl.1, trivial⟩, by omega⟩
theorem lam_ok : OkE L (lamF L ex) := fun s h => by
 unfold lamF at h ⊢
 simp only at h ⊢
 have hx := hex _ h
 have h1 := need_ok (goes_ok (hgo _) h)
 have hl := names_ok _ _ _ _ h1.1
 have hne := hl.2.2.2 (by trivial) (by unfold fuelP; omega)
 simp only at hx hl ⊢
 simp only [List.length_nil, Nat.zero_add] at hl hne
 simp only [wfE, wfK, wfB, wfA, wtE, wtK, wtB, wtA, List.length_nil, show ¬ (8 : Nat) = 1 by decide, if_false]
 exact ⟨⟨.inr (.inr (.inr (.inr (.inr (.inr (.inr ⟨rfl, rfl, rfl, rfl, rfl, fun q => by rw [q] at hne; simp at hne, fun x hx2 => (hl.1 x hx2).resolve_left (by simp), rfl, rfl⟩)))))), ⟨hx.1, trivial⟩, trivial, trivial⟩, by omega⟩
theorem op_ok : OkE L (opF L ex) := fun s h => by
 unfold opF at h ⊢
 simp only at h ⊢
 split at h
 · rename_i hc
   rw [if_pos hc]
   have h2 := row_ok hgo hex _ h
   have h3 := goes_ok (row_goes hgo _) h
   have h4 := token_ok2 (k := 4) (by decide) h3
   have h5 := token_text (k := 4) (by decide) h3
   have h6 := row_ok hgo hex _ h4.1
   simp only [wfE, wfK, wfB, wfA, wtE, wtK, wtB, wtA, List.length_nil, show ¬ (5 : Nat) = 1 by decide, if_false]
   exact ⟨⟨.inr (.inr (.inr (.inr (.inl ⟨rfl, .inr ⟨h5, rfl⟩, rfl, rfl, rfl, rfl, rfl⟩)))), ⟨h6.1, h2.1, trivial⟩, trivial, trivial⟩, by omega⟩
 · rename_i hc
   rw [if_neg hc]
   exact row_ok hgo hex _ h
theorem step_ok : OkE L (exprStep L ex) := fun s h => by
 unfold exprStep at h ⊢
 split at h
 · rename_i hc; exact absurd h hc
 · rename_i hc
   rw [if_neg hc]
   split at h
   · rename_i h1; rw [if_pos h1]; exact let_ok hgo hex _ h
   · rename_i h1
     rw [if_neg h1]
     split at h
     · rename_i h2; rw [if_pos h2]; exact choice_ok hgo hex _ h
     · rename_i h2
       rw [if_neg h2]
       split at h
       · rename_i h3; rw [if_pos h3]; exact lam_ok hgo hex _ h
       · rename_i h3; rw [if_neg h3]; exact op_ok hgo hex _ h
omit hgo hex
theorem expr_ok (L : List TokV) : ∀ d, OkE L (exprF L d)
 | 0 => fun s h => by
  unfold exprF at h ⊢
  split at h
  · rename_i hc; exact absurd h hc
  · exact absurd h (fault_bad (by decide))
 | d + 1 => fun s h => by
  unfold exprF at h ⊢
  exact step_ok (expr_goes L d) (expr_ok L d) s h
theorem mod_goes (L : List TokV) : ∀ (n : Nat) (m : TM) (s : PS), Goes L s (modF L n m s).2
 | 0, m, s => Goes.refl _ _
 | n + 1, m, s => by
  unfold modF
  split
  · rename_i hc
    split
    · exact (((Goes.step hc.2).trans (data_goes_ L _ _ _)).trans (need_goes _ _)).trans (mod_goes L n _ _)
    · exact (((bind_goes (expr_goes L 200) _)).trans (need_goes _ _)).trans (mod_goes L n _ _)
  · exact Goes.refl _ _
theorem mod_ok (L : List TokV) : ∀ (n : Nat) (m : TM) (s : PS), (modF L n m s).2.e = 0 → wfB L m.binds →
 wfB L (modF L n m s).1.binds ∧ wtB (modF L n m s).1.binds + s.at_ ≤ wtB m.binds + (modF L n m s).2.at_
 | 0, m, s, h, ha => ⟨ha, Nat.le_refl _⟩
 | n + 1, m, s, h, ha => by
  unfold modF at h ⊢
  split at h
  · rename_i hc
    rw [if_pos hc]
    split at h
    · rename_i hd
      rw [if_pos hd]
      have ih := mod_ok L n _ _ h ha
      have g := ((Goes.step hc.2).trans (data_goes_ L (fuelP L) [] _)).trans (need_goes [59] _)
      have := g.up
      simp only at ih ⊢
      exact ⟨ih.1, by omega⟩
    · rename_i hd
      rw [if_neg hd]
      have ht := need_ok (goes_ok (mod_goes L n _ _) h)
      have hb := bind_ok (expr_goes L 200) (expr_ok L 200) _ ht.1
      have ih := mod_ok L n _ _ h ((wfB_app _ _).2 ⟨ha, hb.1⟩)
      rw [wtB_app] at ih
      simp only at ih ⊢
      exact ⟨ih.1, by omega⟩
  · rename_i hc
    rw [if_neg hc]
    exact ⟨ha, Nat.le_refl _⟩
theorem tokens_ok (L : List TokV) : wfB L (tokensF L).1.binds ∧ wtB (tokensF L).1.binds ≤ L.length := by
 unfold tokensF
 simp only
 split
 · exact ⟨trivial, Nat.zero_le _⟩
 · rename_i h
   have h0 := mod_ok L (fuelP L) ⟨[], []⟩ ⟨0, 0, 0⟩ (by simpa using h) trivial
   have h1 := (mod_goes L (fuelP L) ⟨[], []⟩ ⟨0, 0, 0⟩).le (Nat.zero_le _)
   simp only [wtB] at h0
   exact ⟨h0.1, by show wtB (modF L (fuelP L) ⟨[], []⟩ ⟨0, 0, 0⟩).1.binds ≤ _; omega⟩
theorem parse_ok (s : List UInt8) : wfB (lexF s).toks (parseF s).1.binds ∧ wtB (parseF s).1.binds ≤ (lexF s).toks.length := by
 unfold parseF
 split
 · exact ⟨trivial, Nat.zero_le _⟩
 · exact tokens_ok _
end
end Go.Proofs.YtlnmicddobgppaaGreatDoor
