/-
  The document's free names (layer 12), in plain words; what its Free tells. No conditions.
  Names as the program walks, and the document's (layer 12): they are the same, once each. Conditions: trees of the shapes that there are.
-/
import Derived.Test.YthpenpgcacikaaaVarE
import Derived.Deep.RegionHeld3
namespace Go.Proofs.Ythpenpgcacikaaa
set_option linter.unusedSimpArgs false
set_option linter.unusedVariables false
open Go.RowKit

mutual
/-- The document's free names. -/
def freeE : TE → List (List UInt8)
  | .mk k n _ _ ps ks bs al => if k = 1 then [n] else woF (woF (freeA al (freeK ks (freeB bs []))) (nmB bs)) ps
def freeB : List TB → List (List UInt8) → List (List UInt8)
  | [], out => out
  | .mk _ p e :: l, out => freeB l (joinF out (woF (freeE e) p))
def freeK : List TE → List (List UInt8) → List (List UInt8)
  | [], out => out
  | e :: l, out => freeK l (joinF out (freeE e))
def freeA : List TA → List (List UInt8) → List (List UInt8)
  | [], out => out
  | .mk k n _ _ ns e :: l, out => freeA l (joinF out (woF (freeE e) (if k = 2 then [n] else ns)))
end
theorem freeB_app : ∀ (a b : List TB) (out : List (List UInt8)), freeB (a ++ b) out = freeB b (freeB a out)
  | [], _, _ => rfl
  | .mk _ p e :: l, b, out => freeB_app l b _
theorem freeK_app : ∀ (a b : List TE) (out : List (List UInt8)), freeK (a ++ b) out = freeK b (freeK a out)
  | [], _, _ => rfl
  | e :: l, b, out => freeK_app l b _
theorem freeA_app : ∀ (a b : List TA) (out : List (List UInt8)), freeA (a ++ b) out = freeA b (freeA a out)
  | [], _, _ => rfl
  | .mk k n _ _ ns e :: l, b, out => freeA_app l b _
theorem freeB_take {bs : List TB} {i : Nat} (h : i < bs.length) (out : List (List UInt8)) : freeB (bs.take (i + 1)) out = joinF (freeB (bs.take i) out) (woF (freeE bs[i].body) bs[i].params) := by
  rw [List.take_succ_eq_append_getElem h, freeB_app]
  obtain ⟨n, p, e⟩ := bs[i]
  rfl
theorem freeK_take {ks : List TE} {i : Nat} (h : i < ks.length) (out : List (List UInt8)) : freeK (ks.take (i + 1)) out = joinF (freeK (ks.take i) out) (freeE ks[i]) := by
  rw [List.take_succ_eq_append_getElem h, freeK_app]
  rfl
theorem freeA_take {al : List TA} {i : Nat} (h : i < al.length) (out : List (List UInt8)) : freeA (al.take (i + 1)) out = joinF (freeA (al.take i) out) (woF (freeE al[i].body) al[i].binders) := by
  rw [List.take_succ_eq_append_getElem h, freeA_app]
  obtain ⟨k, n, f, b, p, e⟩ := al[i]
  rfl
mutual
theorem freeE_len : ∀ e : TE, (freeE e).length ≤ wtE e
  | .mk k n _ _ ps ks bs al => by
    unfold freeE wtE
    by_cases h : k = 1
    · rw [if_pos h, if_pos h]; simp; omega
    · rw [if_neg h]
      have := woF_len (woF (freeA al (freeK ks (freeB bs []))) (nmB bs)) ps
      have := woF_len (freeA al (freeK ks (freeB bs []))) (nmB bs)
      have := freeA_len al (freeK ks (freeB bs []))
      have := freeK_len ks (freeB bs [])
      have := freeB_len bs []
      have := wnB_eq bs
      simp at *
      omega
theorem freeB_len : ∀ (l : List TB) (out : List (List UInt8)), (freeB l out).length ≤ out.length + wnB l
  | [], out => by simp [freeB, wnB]
  | .mk _ p e :: l, out => by
    unfold freeB wnB
    have := freeB_len l (joinF out (woF (freeE e) p))
    have := joinF_len (woF (freeE e) p) out
    have := woF_len (freeE e) p
    have := freeE_len e
    omega
theorem freeK_len : ∀ (l : List TE) (out : List (List UInt8)), (freeK l out).length ≤ out.length + wtK l
  | [], out => by simp [freeK, wtK]
  | e :: l, out => by
    unfold freeK wtK
    have := freeK_len l (joinF out (freeE e))
    have := joinF_len (freeE e) out
    have := freeE_len e
    omega
theorem freeA_len : ∀ (l : List TA) (out : List (List UInt8)), (freeA l out).length ≤ out.length + wtA l
  | [], out => by simp [freeA, wtA]
  | .mk k n _ _ ns e :: l, out => by
    unfold freeA wtA
    have := freeA_len l (joinF out (woF (freeE e) (if k = 2 then [n] else ns)))
    have := joinF_len (woF (freeE e) (if k = 2 then [n] else ns)) out
    have := woF_len (freeE e) (if k = 2 then [n] else ns)
    have := freeE_len e
    omega
end
/-- What the document's Free does of an expression. -/
def RefOk (e : TE) : Prop := ∀ (w : World) (cs : List Value), EAt (fun _ => False) w cs e → wtE e ≤ 400000 →
  Calls Try.prog 13 #[.agg cs.toArray] w fun r w' => ∃ v, r = .returned v ∧ w'.ownsRow w.heap.size 9 1 v (freeE e).length (strC (freeE e)) ∧ Fr Nil w w'
theorem owns_single {w : World} {g base : Nat} {x : List UInt8} (h : Blk w g #[.string ⟨x.toArray⟩] 9) (hb : base ≤ g) : w.ownsRow base 9 1 (.slice (some ⟨g, 0, none⟩) 1 1) 1 (strC [x]) :=
  ⟨rfl, .inr ⟨g, 1, _, rfl, hb, h, Nat.le_refl _, by unfold maxLen; omega, rfl, rfl⟩⟩
set_option maxRecDepth 100000 in
theorem ref_var {nm : List UInt8} {fl : Bool} {bi : Nat} {ps : List (List UInt8)} {ks : List TE} {bs : List TB} {al : List TA} : RefOk (.mk 1 nm fl bi ps ks bs al) := by
  intro w cs hE hwt
  have eo : freeE (.mk 1 nm fl bi ps ks bs al) = [nm] := by unfold freeE; rw [if_pos rfl]
  rw [eo]
  obtain ⟨a0, n0, c0, a1, n1, c1, a2, n2, c2, a3, n3, c3, rfl⟩ : ∃ a0 n0 c0 a1 n1 c1 a2 n2 c2 a3 n3 c3, cs = [.int .i64 1, .string ⟨nm.toArray⟩, .bool fl, .int .u64 (bi : Int), .slice a0 n0 c0, .slice a1 n1 c1, .slice a2 n2 c2, .slice a3 n3 c3] := by
    cases hE with
    | mk kc bc ac be ae bp an hp hk hk2 hb hb1 hb2 hb3 ha ha1 ha2 ha3 =>
      obtain ⟨_, _, rfl⟩ := RowC.shape hp
      obtain ⟨_, _, rfl⟩ := hk.shape
      obtain ⟨_, _, rfl⟩ := hb.shape
      obtain ⟨_, _, rfl⟩ := ha.shape
      exact ⟨_, _, _, _, _, _, _, _, _, _, _, _, rfl⟩
  clear hE eo hwt
  go_enter Try.func13, Try.ntmps13
  go_wp2
  go_ret
  refine ⟨_, rfl, owns_single (g := w.heap.size + 1) ?_ (by omega), by (repeat (first | (with_reducible exact Fr.refl _ _) | (with_reducible assumption) | (with_reducible exact Fr.of_nil (by assumption)) | (with_reducible refine Fr.drew ?_) | (with_reducible refine Fr.drewN ?_ _) | (with_reducible refine Fr.alloc ?_ _) | (with_reducible refine Fr.set ?_ _ _ (by first | (intros; omega) | (simp; done) | (simp; omega))) | (with_reducible refine Fr.via ?_ (by assumption)) | (with_reducible refine Fr.comp ?_ (by assumption))))⟩
  have h := Blk.new (w.alloc (.cells #[.int .i64 1, .string ⟨nm.toArray⟩, .bool fl, .int .u64 (bi : Int), .slice a0 n0 c0, .slice a1 n1 c1, .slice a2 n2 c2, .slice a3 n3 c3] 32)) #[.string ⟨nm.toArray⟩] 9
  simpa using h
end Go.Proofs.Ythpenpgcacikaaa

namespace Go.Proofs.Ythpenpgcacikaaa
set_option linter.unusedSimpArgs false
set_option linter.unusedVariables false

mutual
/-- Each expression has the parts of its kind alone. -/
def vsE : TE → Prop
  | .mk k _ _ _ ps ks bs al => (k = 1 ∨ (k = 6 ∧ ps = [] ∧ al = []) ∨ (k = 8 ∧ bs = [] ∧ al = []) ∨ (k ≠ 1 ∧ k ≠ 6 ∧ k ≠ 8 ∧ ps = [] ∧ bs = [])) ∧ vsK ks ∧ vsB bs ∧ vsA al
def vsK : List TE → Prop
  | [] => True
  | e :: l => vsE e ∧ vsK l
def vsB : List TB → Prop
  | [] => True
  | .mk _ _ e :: l => vsE e ∧ vsB l
def vsA : List TA → Prop
  | [] => True
  | .mk _ _ _ _ _ e :: l => vsE e ∧ vsA l
end
theorem mem_joinF {x : List UInt8} : ∀ {b a : List (List UInt8)}, x ∈ joinF a b ↔ x ∈ a ∨ x ∈ b
  | [], a => by simp [joinF]
  | y :: b, a => by
    show x ∈ joinF (if y ∈ a then a else a ++ [y]) b ↔ _
    rw [mem_joinF]
    split
    · rename_i h
      constructor
      · rintro (q | q)
        · exact .inl q
        · exact .inr (List.mem_cons_of_mem _ q)
      · rintro (q | q)
        · exact .inl q
        · rcases List.mem_cons.1 q with z | z
          · subst z; exact .inl h
          · exact .inr z
    · simp [or_assoc]
theorem joinF_nil (a : List (List UInt8)) : joinF a [] = a := rfl
theorem joinF_cons (a : List (List UInt8)) (x : List UInt8) (b : List (List UInt8)) : joinF a (x :: b) = joinF (if x ∈ a then a else a ++ [x]) b := rfl
theorem joinF_app (a b c : List (List UInt8)) : joinF a (b ++ c) = joinF (joinF a b) c := by unfold joinF; rw [List.foldl_append]
theorem joinF_join : ∀ (b a c : List (List UInt8)), joinF a (joinF c b) = joinF (joinF a c) b
  | [], a, c => rfl
  | x :: b, a, c => by
    rw [joinF_cons, joinF_join b, joinF_cons]
    congr 1
    by_cases h : x ∈ c
    · rw [if_pos h, if_pos (mem_joinF.2 (.inr h))]
    · rw [if_neg h, joinF_snoc]
theorem uniq_eq (l : List (List UInt8)) : uniq l = joinF [] l := rfl
theorem joinF_uniq (a b : List (List UInt8)) : joinF a (uniq b) = joinF a b := by rw [uniq_eq, joinF_join]; rfl
theorem woF_nil (a : List (List UInt8)) : woF a [] = a := by unfold woF; rw [List.filter_eq_self]; simp
theorem nil_woF (s : List (List UInt8)) : woF [] s = [] := rfl
theorem woF_app (a s t : List (List UInt8)) : woF a (s ++ t) = woF (woF a s) t := by
  unfold woF
  rw [List.filter_filter]
  congr 1
  funext x
  simp
  cases decide (x ∈ s) <;> cases decide (x ∈ t) <;> rfl
theorem mem_woF {x : List UInt8} {a s : List (List UInt8)} : x ∈ woF a s ↔ x ∈ a ∧ x ∉ s := by unfold woF; simp
theorem woF_join : ∀ (b a s : List (List UInt8)), joinF (woF a s) (woF b s) = woF (joinF a b) s
  | [], a, s => rfl
  | x :: b, a, s => by
    by_cases h : x ∈ s
    · have e : woF (x :: b) s = woF b s := by unfold woF; simp [h]
      rw [e, joinF_cons, ← woF_join b]
      congr 1
      split
      · rfl
      · unfold woF; simp [h]
    · have e : woF (x :: b) s = x :: woF b s := by unfold woF; simp [h]
      rw [e, joinF_cons, joinF_cons, ← woF_join b]
      congr 1
      by_cases q : x ∈ a
      · rw [if_pos q, if_pos (mem_woF.2 ⟨q, h⟩)]
      · rw [if_neg q, if_neg (fun z => q (mem_woF.1 z).1)]
        unfold woF
        simp [h]
mutual
theorem occ_free : ∀ (e : TE), vsE e → ∀ b : List (List UInt8), uniq (occE e b) = woF (freeE e) b
  | .mk k n _ _ ps ks bs al, hv, b => by
    unfold vsE at hv
    obtain ⟨hs, hk, hb, ha⟩ := hv
    unfold occE freeE
    by_cases h1 : k = 1
    · rw [if_pos h1, if_pos h1]
      by_cases h : n ∈ b
      · rw [if_pos h]
        unfold woF
        simp [h, uniq]
      · rw [if_neg h]
        unfold woF
        simp [h, uniq]
    rw [if_neg h1, if_neg h1]
    rcases hs with h | ⟨h6, rfl, rfl⟩ | ⟨h8, rfl, rfl⟩ | ⟨_, h6, h8, rfl, rfl⟩
    · exact absurd h h1
    · rw [if_pos h6, uniq_eq, joinF_app]
      have e1 := occ_freeB bs hb (nmB bs ++ b) []
      have e2 := occ_freeK ks hk (nmB bs ++ b) (freeB bs [])
      rw [nil_woF] at e1
      rw [e1, e2, woF_nil, woF_app]
      rfl
    · rw [if_neg (by omega), if_pos h8, uniq_eq]
      have e2 := occ_freeK ks hk (ps ++ b) []
      rw [nil_woF] at e2
      rw [e2, woF_app]
      simp only [freeB, freeA, nmB, List.map_nil, woF_nil]
    · rw [if_neg h6, if_neg h8, uniq_eq, joinF_app]
      have e1 := occ_freeK ks hk b []
      have e2 := occ_freeA al ha b (freeK ks [])
      rw [nil_woF] at e1
      rw [e1, e2]
      simp only [freeB, nmB, List.map_nil, woF_nil]
theorem occ_freeK : ∀ (l : List TE), vsK l → ∀ (b out : List (List UInt8)), joinF (woF out b) (occK l b) = woF (freeK l out) b
  | [], _, b, out => rfl
  | e :: l, hv, b, out => by
    unfold vsK at hv
    unfold occK freeK
    rw [joinF_app, ← joinF_uniq (woF out b) (occE e b), occ_free e hv.1 b, woF_join, occ_freeK l hv.2]
theorem occ_freeB : ∀ (l : List TB), vsB l → ∀ (b out : List (List UInt8)), joinF (woF out b) (occB l b) = woF (freeB l out) b
  | [], _, b, out => rfl
  | .mk _ p e :: l, hv, b, out => by
    unfold vsB at hv
    unfold occB freeB
    rw [joinF_app, ← joinF_uniq (woF out b) (occE e (p ++ b)), occ_free e hv.1 (p ++ b), woF_app, woF_join, occ_freeB l hv.2]
theorem occ_freeA : ∀ (l : List TA), vsA l → ∀ (b out : List (List UInt8)), joinF (woF out b) (occA l b) = woF (freeA l out) b
  | [], _, b, out => rfl
  | .mk k n _ _ ns e :: l, hv, b, out => by
    unfold vsA at hv
    unfold occA freeA
    rw [joinF_app, ← joinF_uniq (woF out b) (occE e _), occ_free e hv.1 _, woF_app, woF_join, occ_freeA l hv.2]
end
theorem uniq_free {e : TE} (h : vsE e) : uniq (occE e []) = freeE e := by rw [occ_free e h, woF_nil]
end Go.Proofs.Ythpenpgcacikaaa
