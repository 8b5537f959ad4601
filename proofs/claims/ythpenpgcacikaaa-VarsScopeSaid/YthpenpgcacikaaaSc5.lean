/-
  Scope in plain words (layer 12): a free name of a bind is a global one where no fault is; a module without one bind faults there. No conditions.
-/
import Derived.Test.YthpenpgcacikaaaSc4
namespace Go.Proofs.Ythpenpgcacikaaa
set_option linter.unusedSimpArgs false
set_option linter.unusedVariables false
open Go.RowKit

theorem mod_len (L : List TokV) : ∀ (n : Nat) (m : TM) (s : PS), (modF L n m s).1.cons.length + measP L (modF L n m s).2 ≤ m.cons.length + measP L s
  | 0, m, s => Nat.le_refl _
  | n + 1, m, s => by
    unfold modF
    split
    · rename_i hc
      split
      · have h1 := mod_len L n ⟨m.cons ++ (dataF L (fuelP L) [] { s with at_ := s.at_ + 1 }).1, m.binds⟩ (needF L [59] (dataF L (fuelP L) [] { s with at_ := s.at_ + 1 }).2)
        have h2 := data_len L (fuelP L) [] { s with at_ := s.at_ + 1 }
        have h3 := measP_goes (need_goes (L := L) [59] (dataF L (fuelP L) [] { s with at_ := s.at_ + 1 }).2)
        have h4 := measP_goes (Goes.step hc.2)
        simp only [List.length_append, List.length_nil] at h1 h2 ⊢
        omega
      · have h1 := mod_len L n ⟨m.cons, m.binds ++ [(bindF L (exprF L 200) s).1]⟩ (needF L [59] (bindF L (exprF L 200) s).2)
        have h3 := measP_goes ((bind_goes (L := L) (expr_goes L 200) s).trans (need_goes [59] _))
        simp only at h1 ⊢
        omega
    · exact Nat.le_refl _
/-- A source's constructors and binds are few. -/
theorem parse_few (s : List UInt8) : (parseF s).1.cons.length ≤ 100000 ∧ (parseF s).1.binds.length + wnB (parseF s).1.binds ≤ 4096 := by
  have h := parse_ok s
  have hl := lexF_size8 s
  rw [wnB_eq] at h
  refine ⟨?_, by omega⟩
  unfold parseF
  split
  · exact Nat.zero_le _
  · show (tokensF (lexF s).toks).1.cons.length ≤ _
    unfold tokensF
    simp only
    split
    · exact Nat.zero_le _
    · have h1 := mod_len (lexF s).toks (fuelP (lexF s).toks) ⟨[], []⟩ ⟨0, 0, 0⟩
      have h2 : measP (lexF s).toks ⟨0, 0, 0⟩ = (lexF s).toks.length + 1 := by unfold measP; simp
      rw [h2] at h1
      simp only [List.length_nil] at h1
      show (modF (lexF s).toks (fuelP (lexF s).toks) ⟨[], []⟩ ⟨0, 0, 0⟩).1.cons.length ≤ _
      omega
theorem sc_all0 {cons : List (List UInt8)} : ∀ (bs : List TB) (G : List (List UInt8)) (s : FS), (scB cons bs G s).1 = 0 → ∀ b ∈ bs, vsE b.body → occE b.body (G ++ b.params) = []
  | [], _, _, _, b, hb, _ => by simp at hb
  | .mk n p e :: l, G, s, h, b, hb, hv => by
    rcases List.mem_cons.1 hb with q | q
    · subst q
      exact scE_occ e (G ++ p) (G ++ p) _ hv (fun _ z => z) (scB_zero l G _ h)
    · exact sc_all0 l G _ h b q hv
/-- Without a fault a bind's free names are names of binds. -/
theorem chk_all {m : TM} (h : (chkF m).1 = 0) {b : TB} (hb : b ∈ m.binds) (hv : vsE b.body) : ∀ x ∈ woF (freeE b.body) b.params, x ∈ nmB m.binds := by
  have h0 := sc_all0 m.binds _ _ h b hb hv
  have h1 := occ_free b.body hv (nmB m.binds ++ b.params)
  rw [h0] at h1
  intro x hx
  obtain ⟨hx1, hx2⟩ := mem_woF.1 hx
  by_cases q : x ∈ nmB m.binds
  · exact q
  · have hm : x ∈ woF (freeE b.body) (nmB m.binds ++ b.params) := mem_woF.2 ⟨hx1, fun z => by
      rcases List.mem_append.1 z with z | z
      · exact q z
      · exact hx2 z⟩
    rw [← h1] at hm
    simp [uniq] at hm
/-- The binds up to k, the i-th among them, none else named x. -/
def nbF (bs : List TB) (i : Nat) (x : List UInt8) : Nat → List TB
  | 0 => []
  | k + 1 => nbF bs i x k ++ (match bs[k]? with | some b => if k = i ∨ b.name ≠ x then [b] else [] | none => [])
section
variable {bs : List TB} {i k : Nat} {x : List UInt8}
theorem nb_in (h : k < bs.length) (hc : k = i ∨ bs[k].name ≠ x) : nbF bs i x (k + 1) = nbF bs i x k ++ [bs[k]] := by
  rw [nbF, List.getElem?_eq_getElem h]
  simp only [if_pos hc]
theorem nb_out (h : k < bs.length) (hc : ¬ (k = i ∨ bs[k].name ≠ x)) : nbF bs i x (k + 1) = nbF bs i x k := by
  rw [nbF, List.getElem?_eq_getElem h]
  simp only [if_neg hc, List.append_nil]
theorem nb_few : ∀ k, k ≤ bs.length → (nbF bs i x k).length ≤ k ∧ wnB (nbF bs i x k) ≤ wnB (bs.take k)
  | 0, _ => ⟨Nat.le_refl _, Nat.zero_le _⟩
  | k + 1, h => by
    have ih := nb_few k (by omega)
    have hk : k < bs.length := h
    have ht := wnB_take hk
    by_cases hc : k = i ∨ bs[k].name ≠ x
    · rw [nb_in hk hc, wnB_app, List.length_append, ht]
      have : wnB [bs[k]] = bs[k].params.length + wtE bs[k].body := by
        obtain ⟨n, p, e⟩ := bs[k]
        simp [wnB, TB.params, TB.body]
      simp only [List.length_singleton]
      omega
    · rw [nb_out hk hc, ht]
      omega
theorem nb_mem : ∀ k, k ≤ bs.length → ∀ b ∈ nbF bs i x k, ∃ (j : Nat) (h : j < bs.length), bs[j] = b ∧ (j = i ∨ b.name ≠ x)
  | 0, _, b, hb => by simp [nbF] at hb
  | k + 1, h, b, hb => by
    have hk : k < bs.length := h
    by_cases hc : k = i ∨ bs[k].name ≠ x
    · rw [nb_in hk hc] at hb
      rcases List.mem_append.1 hb with q | q
      · exact nb_mem k (by omega) b q
      · rw [List.mem_singleton] at q
        subst q
        exact ⟨k, hk, rfl, hc⟩
    · rw [nb_out hk hc] at hb
      exact nb_mem k (by omega) b hb
theorem nb_own (hi : i < bs.length) : ∀ k, k ≤ bs.length → i < k → bs[i] ∈ nbF bs i x k
  | 0, _, h => absurd h (Nat.not_lt_zero i)
  | k + 1, h, hk => by
    have hk2 : k < bs.length := h
    by_cases hc : k = i ∨ bs[k].name ≠ x
    · rw [nb_in hk2 hc]
      rcases Nat.lt_succ_iff_lt_or_eq.1 hk with q | q
      · exact List.mem_append.2 (.inl (nb_own hi k (by omega) q))
      · subst q
        exact List.mem_append.2 (.inr (List.mem_singleton.2 rfl))
    · rw [nb_out hk2 hc]
      exact nb_own hi k (by omega) (by
        rcases Nat.lt_succ_iff_lt_or_eq.1 hk with q | q
        · exact q
        · exact absurd (.inl q.symm) hc)
end
/-- A module without the other binds of a name that a bind's body wants: no fault only where it is that bind's own. -/
theorem scope_law {m : TM} {i : Nat} {x : List UInt8} (hi : i < m.binds.length) (hv : vsE m.binds[i].body) (hx : x ∈ woF (freeE m.binds[i].body) m.binds[i].params) (h : (chkF ⟨m.cons, nbF m.binds i x m.binds.length⟩).1 = 0) : m.binds[i].name = x := by
  have h1 := chk_all h (b := m.binds[i]) (nb_own hi _ (Nat.le_refl _) hi) hv x hx
  obtain ⟨b, hb, e⟩ := List.mem_map.1 h1
  obtain ⟨j, hj, ej, q⟩ := nb_mem _ (Nat.le_refl _) b hb
  rcases q with q | q
  · subst q
    rw [ej]
    exact e
  · exact absurd e q
/-- Binds taken into a row of the call's own; their parts lie below B. -/
def BRow (B base : Nat) (w : World) (v : Value) (l : List TB) : Prop := ∃ cl : List (List Value), cl.length = l.length ∧ (∀ i (h : i < cl.length) (h' : i < l.length), BAt (fun b => B ≤ b) w cl[i] l[i]) ∧ w.ownsRow base 34 10 v l.length cl.flatten
section
variable {B base : Nat} {w w' : World} {v : Value} {l : List TB}
theorem BRow.nil : BRow B base w (.slice none 0 0) [] := ⟨[], rfl, fun i h _ => absurd h (Nat.not_lt_zero i), World.ownsRow_nil _ _ _ _⟩
theorem BRow.own (h : BRow B base w v l) : ∀ k, v.ownBlock = some k → base ≤ k ∧ k < w.heap.size := by
  obtain ⟨cl, _, _, h⟩ := h
  exact h.lt
theorem BRow.shape (h : BRow B base w v l) : ∃ a cap, v = .slice a l.length cap := by
  obtain ⟨cl, _, _, h⟩ := h
  exact owns_shape h
theorem BRow.fr {S : Nat → Prop} (h : BRow B base w v l) (f : Fr S w w') (hs : ∀ b, S b → B ≤ b) (ho : ∀ k, v.ownBlock = some k → ¬ S k) : BRow B base w' v l := by
  obtain ⟨cl, h1, h2, h3⟩ := h
  exact ⟨cl, h1, fun i a b => lawB.fr (h2 i a b) f hs, owns_frS h3 f ho⟩
theorem BRow.binds (h : BRow B base w v l) : BindsAt (fun _ => False) w v l := by
  obtain ⟨cl, h1, h2, h3⟩ := h
  have hl : ∀ c ∈ cl, c.length = 10 := fun c hc => by
    obtain ⟨i, hi, rfl⟩ := List.getElem_of_mem hc
    exact lawB.len (h2 i hi (by omega))
  refine ⟨fun i => cl.getD i [], RowC.of_own h3 (fun b q => q.elim) (fun i hi => ?_) (fun i hi j u hj => ?_), fun i hi => ?_⟩
  · have e : cl.getD i [] = cl[i] := by simp [List.getD, show i < cl.length by omega]
    rw [e]
    exact hl _ (List.getElem_mem _)
  · have e : cl.getD i [] = cl[i] := by simp [List.getD, show i < cl.length by omega]
    rw [e] at hj
    exact flat_at hl (by omega) hj
  · have e : cl.getD i [] = cl[i] := by simp [List.getD, show i < cl.length by omega]
    simp only [e]
    exact lawB.mono (h2 i (by omega) hi) (fun b _ q => q.elim)
theorem BRow.push {w3 : World} {v' : Value} {cl : List (List Value)} {c : List Value} {a : TB} (h1 : cl.length = l.length) (h2 : ∀ i (h : i < cl.length) (h' : i < l.length), BAt (fun b => B ≤ b) w cl[i] l[i]) (hn : BAt (fun b => B ≤ b) w c a) (ho : w3.ownsRow base 34 10 v' (l.length + 1) (cl.flatten ++ c)) {S : Nat → Prop} (f : Fr S w w3) (hs : ∀ b, S b → B ≤ b) : BRow B base w3 v' (l ++ [a]) := by
  refine ⟨cl ++ [c], by simp [h1], fun i hi hi' => ?_, by rw [List.flatten_append, List.length_append]; simpa using ho⟩
  by_cases q : i < cl.length
  · rw [List.getElem_append_left q, List.getElem_append_left (by omega)]
    exact lawB.fr (h2 i q (by omega)) f hs
  · have e1 : i = cl.length := by simp at hi; omega
    subst e1
    rw [List.getElem_append_right (Nat.le_refl _), List.getElem_append_right (by omega)]
    simp only [Nat.sub_self, List.getElem_cons_zero, h1]
    exact lawB.fr hn f hs
end
end Go.Proofs.Ythpenpgcacikaaa
