/-
  Arity (layer 11): what a source's constructors take; which faults there are; the document's example. Conditions: the listed variable errors.errorType.
-/
import Derived.Test.YtpjlibbdngnnnaaDoorArB
namespace Go.Proofs.YtpjlibbdngnnnaaDoor
set_option linter.unusedSimpArgs false
set_option linter.unusedVariables false
open Go.RowKit

section
variable {L : List TokV}
theorem data_ar : ∀ (n : Nat) (acc : List (List UInt8 × Nat)) (s : PS), (dataF L n acc s).2.e = 0 → (∀ d ∈ acc, d.2 ≤ 24) → ∀ d ∈ (dataF L n acc s).1, d.2 ≤ 24
  | 0, acc, s, _, h => h
  | n + 1, acc, s, he, h => by
    unfold dataF at he ⊢
    by_cases hc : s.e = 0 ∧ kindP L s = 2
    · rw [if_pos hc] at he ⊢
      simp only at he ⊢
      refine data_ar n _ _ he (fun d hd => ?_)
      rcases List.mem_append.1 hd with q | q
      · exact h d q
      · rw [List.mem_singleton] at q
        rw [q]
        have hu := goes_ok (data_goes_ L n _ _) he
        obtain ⟨s1, hs1⟩ : ∃ s1, (if kindP L (tokenF L 2 s).2 = 3 then (if (L[(tokenF L 2 s).2.at_]?.getD (none_ 0)).flt = true ∨ 24 < (L[(tokenF L 2 s).2.at_]?.getD (none_ 0)).bits then faultF L 1 (tokenF L 2 s).2 else (tokenF L 2 s).2) else (tokenF L 2 s).2) = s1 := ⟨_, rfl⟩
        rw [hs1] at hu ⊢
        have hk : s1.e = 0 ∧ kindP L s1 = 3 := by
          unfold tokenF at hu
          by_cases q : s1.e = 0 ∧ kindP L s1 = 3
          · exact q
          · rw [if_neg q] at hu
            exact absurd hu (fault_bad (by decide))
        have hv : (tokenF L 3 s1).1 = L[s1.at_]?.getD (none_ 0) := by unfold tokenF; rw [if_pos hk]
        show (tokenF L 3 s1).1.bits ≤ 24
        rw [hv]
        by_cases k3 : kindP L (tokenF L 2 s).2 = 3
        · rw [if_pos k3] at hs1
          by_cases hb : (L[(tokenF L 2 s).2.at_]?.getD (none_ 0)).flt = true ∨ 24 < (L[(tokenF L 2 s).2.at_]?.getD (none_ 0)).bits
          · rw [if_pos hb] at hs1
            have := hk.1
            rw [← hs1] at this
            exact absurd this (fault_bad (by decide))
          · rw [if_neg hb] at hs1
            rw [← hs1]
            omega
        · rw [if_neg k3] at hs1
          rw [hs1] at k3
          exact absurd hk.2 k3
    · rw [if_neg hc]
      exact h
theorem mod_ar : ∀ (n : Nat) (m : TM) (s : PS), (modF L n m s).2.e = 0 → (∀ d ∈ m.cons, d.2 ≤ 24) → ∀ d ∈ (modF L n m s).1.cons, d.2 ≤ 24
  | 0, m, s, _, h => h
  | n + 1, m, s, he, h => by
    unfold modF at he ⊢
    split at he
    · rename_i hc
      rw [if_pos hc]
      split at he
      · rename_i hd
        rw [if_pos hd]
        refine mod_ar n _ _ he (fun d hx => ?_)
        rcases List.mem_append.1 hx with q | q
        · exact h d q
        · have h1 := goes_ok (mod_goes L n _ _) he
          have h2 := (need_ok h1).1
          exact data_ar _ _ _ h2 (fun d hd => by simp at hd) d q
      · rename_i hd
        rw [if_neg hd]
        exact mod_ar n _ _ he h
    · rename_i hc
      rw [if_neg hc]
      exact h
end
theorem parse_ar (s : List UInt8) : ∀ d ∈ (parseF s).1.cons, d.2 ≤ 1000000 := by
  unfold parseF
  split
  · intro d hd; simp at hd
  · show ∀ d ∈ (tokensF (lexF s).toks).1.cons, _
    unfold tokensF
    simp only
    split
    · intro d hd; simp at hd
    · rename_i hz
      have he : (modF (lexF s).toks (fuelP (lexF s).toks) ⟨[], []⟩ ⟨0, 0, 0⟩).2.e = 0 := Classical.not_not.1 hz
      intro d hd
      have := mod_ar _ _ _ he (fun d hd => by simp at hd) d hd
      omega
/-- A fault of arity: its number. -/
def ArK (s : FS) : Prop := s = noF ∨ s.1 = 11 ∨ s.1 = 12
theorem ArK.ask {s : FS} (h : ArK s) (ok : Bool) {e : Nat} (he : e = 11 ∨ e = 12) (n : List UInt8) : ArK (askF ok s e n) := by
  unfold askF
  split
  · exact h
  · unfold fltS
    split
    · exact .inr he
    · exact h
section
variable (cm : List UInt8 → Int)
mutual
theorem arE_kind : ∀ (e : TE) (s : FS), ArK s → ArK (arE cm e s)
  | .mk k n _ _ ps ks bs al, s, h => by
    rw [arE]
    refine arA_kind al _ (arK_kind ks _ (arB_kind bs _ ?_))
    unfold askE
    split
    · exact h.ask _ (.inl rfl) _
    · split
      · exact h.ask _ (.inl rfl) _
      · split
        · exact h.ask _ (.inr rfl) _
        · split
          · exact h.ask _ (.inr rfl) _
          · exact h
theorem arK_kind : ∀ (l : List TE) (s : FS), ArK s → ArK (arK cm l s)
  | [], s, h => by rw [arK]; exact h
  | e :: l, s, h => by rw [arK]; exact arK_kind l _ (arE_kind e s h)
theorem arB_kind : ∀ (l : List TB) (s : FS), ArK s → ArK (arB cm l s)
  | [], s, h => by rw [arB]; exact h
  | .mk n p e :: l, s, h => by rw [arB]; exact arB_kind l _ (arE_kind e _ (h.ask _ (.inr rfl) _))
theorem arA_kind : ∀ (l : List TA) (s : FS), ArK s → ArK (arA cm l s)
  | [], s, h => by rw [arA]; exact h
  | .mk k n _ _ ns e :: l, s, h => by
    rw [arA]
    refine arA_kind l _ (arE_kind e _ ?_)
    split
    · exact h.ask _ (.inl rfl) _
    · exact h
end
end
theorem mnF_kind : ∀ (l : List TB) (s : FS), ArK s → ArK (mnF l s)
  | [], s, h => h
  | b :: l, s, h => mnF_kind l _ (h.ask _ (.inl rfl) _)
theorem arF_zero {m : TM} (h : (chkF m).1 = 0) : ArK (arF m) := by
  unfold arF
  rw [if_pos h]
  exact arB_kind _ _ _ (mnF_kind _ _ (.inl rfl))
theorem arF_bad {m : TM} (h : (chkF m).1 ≠ 0) : arF m = chkF m := by
  unfold arF
  rw [if_neg h]
def src11 : List UInt8 := [109, 97, 105, 110, 32, 61, 32, 74, 117, 115, 116, 59]
theorem awake11_chk : arF (parseF src11).1 = (11, [74, 117, 115, 116]) ∧ (parseF src11).1.cons.length = 0 ∧ (parseF src11).1.binds.length = 1 ∧ takesF [119, 101, 97, 107] = 3 := ⟨by kernel_rfl, by kernel_rfl, by kernel_rfl, by kernel_rfl⟩
set_option maxRecDepth 100000 in
set_option maxHeartbeats 4000000 in
theorem awake11_any (w : World) (hT : ErrT w) :
    Calls Tryd.prog 13 #[] w fun r w' => r = .returned (.bool true) ∧ Fr Nil w w' := by
  obtain ⟨⟨M, E1, E2⟩, hM⟩ : ∃ M, parseF src11 = M := ⟨_, rfl⟩
  have hchk := awake11_chk
  have hok := parse_src src11 (by decide)
  have har := parse_ar src11
  rw [hM] at hchk hok har
  obtain ⟨h1, h2, h3, h4⟩ := hchk
  have HP := Lib.hid (parse_mod ⟨#[109, 97, 105, 110, 32, 61, 32, 74, 117, 115, 116, 59]⟩ w (by decide) (show parseF src11 = _ from hM))
  simp only [h2, h3] at HP
  have HO := Lib.hid (And.intro hok (And.intro h1 (And.intro h2 (And.intro h3 (And.intro hT (And.intro har h4))))))
  clear hM hok h1 h2 h3 hT har h4
  go_enter Tryd.func13, Tryd.ntmps13
  go_wp2_with fail
  refine HP.out.mono ?_
  rintro e w2 ⟨c1, c2, b1, b2, rfl, hm, f2⟩
  have H2 := Lib.hid (And.intro hm f2)
  clear hm f2 HP
  go_wp2_with fail
  obtain ⟨T, hT⟩ : ∃ T, w2.heap.size = T := ⟨_, rfl⟩
  try rw [hT]
  obtain ⟨W3, hW3⟩ : ∃ W3, w2.alloc (.cells #[.slice c1 0 c2, .slice b1 1 b2] 26) = W3 := ⟨_, rfl⟩
  rw [hW3]
  have f3 : Fr Nil w2 W3 := by rw [← hW3]; (repeat (first | (with_reducible exact Fr.refl _ _) | (with_reducible assumption) | (with_reducible exact Fr.of_nil (by assumption)) | (with_reducible refine Fr.drew ?_) | (with_reducible refine Fr.drewN ?_ _) | (with_reducible refine Fr.alloc ?_ _) | (with_reducible refine Fr.set ?_ _ _ (by first | (intros; omega) | (simp; done) | (simp; omega))) | (with_reducible refine Fr.via ?_ (by assumption)) | (with_reducible refine Fr.comp ?_ (by assumption))))
  have hck := acheck_any (H2.out.1.fr f3 (fun _ q => q.elim)) HO.out.1.cn HO.out.2.2.2.2.2.1 HO.out.1.ok HO.out.1.ws HO.out.1.cons (by have := HO.out.1.len; omega) (HO.out.2.2.2.2.1.fr (H2.out.2.comp f3))
  rw [HO.out.2.1] at hck
  have H3 := Lib.hid (H2.out.2.comp f3)
  have HK := Lib.hid hck
  clear hW3 f3 hck hT
  refine HK.out.mono ?_
  rintro e w4 ⟨rfl, f4⟩
  have H4 := Lib.hid (H3.out.comp f4)
  have HT4 := takes_any [119, 101, 97, 107] w4
  rw [HO.out.2.2.2.2.2.2] at HT4
  have HT4 := Lib.hid HT4
  clear f4 HK
  go_wp2_with fail
  refine HT4.out.mono ?_
  rintro e w5 ⟨rfl, f5⟩
  have H5 := Lib.hid (H4.out.comp f5)
  clear f5
  go_wp2
  go_ret
  exact ⟨rfl, H5.out⟩
set_option maxRecDepth 100000 in
set_option maxHeartbeats 8000000 in
theorem arscope_any (s : ByteArray) (w : World) (hT : ErrT w) :
    Calls Tryd.prog 5 #[.string s] w fun r w' => r = .returned (.bool true) ∧ Fr Nil w w' := by
  have HT := Lib.hid hT
  by_cases hs : s.size ≤ 3000
  · have q1 : ¬ (3000 : Int) < (s.size : Int) := by omega
    have hS := parse_src s.data.toList (by rw [size_of]; unfold maxLen; omega)
    have har := parse_ar s.data.toList
    obtain ⟨⟨M, E1, E2⟩, hM⟩ : ∃ M, parseF s.data.toList = M := ⟨_, rfl⟩
    have hP := fun w1 => parse_mod s w1 (by omega) hM
    rw [hM] at hS har
    obtain ⟨nc, hnc⟩ : ∃ nc, M.cons.length = nc := ⟨_, rfl⟩
    obtain ⟨nb, hnb⟩ : ∃ nb, M.binds.length = nb := ⟨_, rfl⟩
    simp only [hnc, hnb] at hP
    have hS' : SrcOk M := hS
    have HS := Lib.hid (And.intro hS' (And.intro hP (And.intro har (And.intro hnc hnb))))
    clear hS hS' hP hM hs hT hnc hnb har
    go_enter Tryd.func5, Tryd.ntmps5
    go_wp2_with fail
    refine (awake11_any w HT.out).mono ?_
    rintro e w1 ⟨rfl, f1⟩
    have HF1 := Lib.hid f1
    clear f1
    go_wp2_with fail
    refine (HS.out.2.1 w1).mono ?_
    rintro e w2 ⟨ca, cc, ba, bc, rfl, hm, f2⟩
    have H2 := Lib.hid (And.intro hm (HF1.out.comp f2))
    clear hm f2
    obtain ⟨T, hTs⟩ : ∃ T, w2.heap.size = T := ⟨_, rfl⟩
    by_cases he : E1 = 0
    · subst he
      go_upto_region 8 with fail
      try rw [hTs]
      obtain ⟨W3, hW3⟩ : ∃ W3, w2.alloc (.cells #[.slice ca nc cc, .slice ba nb bc] 26) = W3 := ⟨_, rfl⟩
      rw [hW3]
      have f3 : Fr Nil w2 W3 := by rw [← hW3]; (repeat (first | (with_reducible exact Fr.refl _ _) | (with_reducible assumption) | (with_reducible exact Fr.of_nil (by assumption)) | (with_reducible refine Fr.drew ?_) | (with_reducible refine Fr.drewN ?_ _) | (with_reducible refine Fr.alloc ?_ _) | (with_reducible refine Fr.set ?_ _ _ (by first | (intros; omega) | (simp; done) | (simp; omega))) | (with_reducible refine Fr.via ?_ (by assumption)) | (with_reducible refine Fr.comp ?_ (by assumption))))
      have b3 : Blk W3 T #[.slice ca nc cc, .slice ba nb bc] 26 := by rw [← hW3, ← hTs]; exact Blk.new _ _ _
      have hm3 := H2.out.1.fr f3 (fun _ q => q.elim)
      have hck := scheck_any hm3 HS.out.1.cn HS.out.1.ok HS.out.1.ws HS.out.1.cons (by have := HS.out.1.len; omega) (HT.out.fr (H2.out.2.comp f3))
      obtain ⟨⟨RE, RN⟩, hR⟩ : ∃ R, chkF M = R := ⟨_, rfl⟩
      rw [hR] at hck
      have z0 := b3.cell 0
      have z1 := b3.cell 1
      simp at z0 z1
      have zl := b3.lt
      have H3 := Lib.hid (And.intro (H2.out.2.comp f3) (And.intro b3 (And.intro hm3 hR)))
      have HK := Lib.hid hck
      clear hW3 f3 b3 hm3 hck hTs hR
      go_wp2_with fail
      refine HK.out.mono ?_
      rintro e w4 ⟨rfl, f4⟩
      have b4 := f4.blk H3.out.2.1 (fun q => q)
      clear z0 z1 zl
      have z0 := b4.cell 0
      have z1 := b4.cell 1
      simp at z0 z1
      have zl := b4.lt
      have hm4 := H3.out.2.2.1.fr f4 (fun _ q => q.elim)
      have hck2 := acheck_any hm4 HS.out.1.cn HS.out.2.2.1 HS.out.1.ok HS.out.1.ws HS.out.1.cons (by have := HS.out.1.len; omega) (HT.out.fr (H3.out.1.comp f4))
      obtain ⟨⟨SE, SN⟩, hS⟩ : ∃ R, arF M = R := ⟨_, rfl⟩
      rw [hS] at hck2
      have H4 := Lib.hid (And.intro (H3.out.1.comp f4) hS)
      have HK2 := Lib.hid hck2
      clear f4 b4 hm4 hck2 hS HK
      go_wp2_with fail
      refine HK2.out.mono ?_
      rintro e w5 ⟨rfl, f5⟩
      have H5 := Lib.hid (H4.out.1.comp f5)
      clear f5 z0 z1 zl HK2
      by_cases hr : RE = 0
      · have hk := arF_zero (m := M) (by rw [H3.out.2.2.2]; exact hr)
        rw [H4.out.2] at hk
        subst hr
        rcases hk with q | q | q
        · injection q with q1 q2
          subst q1 q2
          go_wp2
          go_ret
          exact ⟨rfl, H5.out⟩
        · have q' : SE = 11 := q
          subst q'
          clear q
          go_wp2
          go_ret
          exact ⟨rfl, H5.out⟩
        · have q' : SE = 12 := q
          subst q'
          clear q
          go_wp2
          go_ret
          exact ⟨rfl, H5.out⟩
      · have hb := arF_bad (m := M) (by rw [H3.out.2.2.2]; exact hr)
        rw [H4.out.2, H3.out.2.2.2] at hb
        injection hb with q1 q2
        subst q1 q2
        have d1 : ((SE : Int) == 0) = false := by rw [beq_eq_false_iff_ne]; omega
        have e1 : ¬ (SE : Int) = 0 := by omega
        clear hr
        go_wp2
        go_ret
        exact ⟨rfl, H5.out⟩
    · have d3 : (E1 == 0) = false := by simpa using he
      go_wp2
      go_ret
      exact ⟨rfl, H2.out.2.comp (by (repeat (first | (with_reducible exact Fr.refl _ _) | (with_reducible assumption) | (with_reducible exact Fr.of_nil (by assumption)) | (with_reducible refine Fr.drew ?_) | (with_reducible refine Fr.drewN ?_ _) | (with_reducible refine Fr.alloc ?_ _) | (with_reducible refine Fr.set ?_ _ _ (by first | (intros; omega) | (simp; done) | (simp; omega))) | (with_reducible refine Fr.via ?_ (by assumption)) | (with_reducible refine Fr.comp ?_ (by assumption)))))⟩
  · have q1 : (3000 : Int) < (s.size : Int) := by omega
    go_enter Tryd.func5, Tryd.ntmps5
    go_wp2_with fail
    refine (awake11_any w HT.out).mono ?_
    rintro e w1 ⟨rfl, f1⟩
    have HF := Lib.hid f1
    clear f1
    go_wp2
    go_ret
    exact ⟨rfl, HF.out⟩
end Go.Proofs.YtpjlibbdngnnnaaDoor
