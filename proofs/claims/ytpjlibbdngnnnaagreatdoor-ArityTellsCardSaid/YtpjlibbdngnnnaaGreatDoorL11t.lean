/-
  The law: arity tells (layer 11). Conditions: the listed variable errors.errorType.
-/
import Derived.Test.YtpjlibbdngnnnaaGreatDoorL11z
import Derived.Test.YtpjlibbdngnnnaaGreatDoorAz3
namespace Go.Proofs.YtpjlibbdngnnnaaGreatDoor
set_option linter.unusedSimpArgs false
set_option linter.unusedVariables false
open Go.RowKit

set_option maxRecDepth 100000 in
set_option maxHeartbeats 8000000 in
theorem tells11_any (s n : ByteArray) (w : World) (hT : ErrT w) :
    Calls Tryz.prog 4 #[.string s, .string n] w fun r w' => r = .returned (.bool true) ∧ Fr Nil w w' := by
  have HT := Lib.hid hT
  by_cases hs : s.size ≤ 3000
  · have q1 : ¬ (3000 : Int) < (s.size : Int) := by omega
    by_cases hz : n.size ≤ 100
    · have q2 : ¬ (100 : Int) < (n.size : Int) := by omega
      have hS := parse_src s.data.toList (by rw [size_of]; unfold maxLen; omega)
      have har := parse_ar s.data.toList
      have hnb := wf_nbB _ (parse_ok s.data.toList).1
      obtain ⟨⟨M, E1, E2⟩, hM⟩ : ∃ M, parseF s.data.toList = M := ⟨_, rfl⟩
      have hP := fun w1 => parse_mod s w1 (by omega) hM
      rw [hM] at hS har hnb
      obtain ⟨nc, hnc⟩ : ∃ nc, M.cons.length = nc := ⟨_, rfl⟩
      obtain ⟨nb, hnbl⟩ : ∃ nb, M.binds.length = nb := ⟨_, rfl⟩
      simp only [hnc, hnbl] at hP
      have hS' : SrcOk M := hS
      have hzf := zF_eq (m := M) hnb
      have hk1 : ∀ w1, Calls Tryz.prog 13 #[.string n] w1 fun e w' => e = .returned (.int .i64 (takesF n.data.toList)) ∧ Fr Nil w1 w' := fun w1 => by
        have := takes_any n.data.toList w1
        simpa using this
      have hk2 : ∀ w1, Calls Tryz.prog 14 #[.string n] w1 fun e w' => e = .returned (.int .i64 (takesF n.data.toList)) ∧ Fr Nil w1 w' := fun w1 => by
        have := ztakes_any n.data.toList w1
        simpa using this
      obtain ⟨K, hK⟩ : ∃ K, takesF n.data.toList = K := ⟨_, rfl⟩
      rw [hK] at hk1 hk2
      have HS := Lib.hid (And.intro hS' (And.intro hP (And.intro har (And.intro hzf (And.intro hk1 hk2)))))
      clear hS hS' hP hM hs hz hT hnc hnbl har hnb hzf hk1 hk2 hK
      go_enter Tryz.func4, Tryz.ntmps4
      go_wp2_with fail
      refine (awake11_any w HT.out).mono ?_
      rintro e w1 ⟨rfl, f1⟩
      have HF1 := Lib.hid f1
      clear f1
      go_wp2_with fail
      refine (HS.out.2.2.2.2.1 w1).mono ?_
      rintro e w1a ⟨rfl, f1⟩
      have HF2 := Lib.hid (HF1.out.comp f1)
      clear f1 HF1
      go_wp2_with fail
      refine (HS.out.2.2.2.2.2 w1a).mono ?_
      rintro e w1b ⟨rfl, f1⟩
      have HF1 := Lib.hid (HF2.out.comp f1)
      clear f1 HF2
      go_wp2_with fail
      refine (HS.out.2.1 w1b).mono ?_
      rintro e w2 ⟨ca, cc, ba, bc, rfl, hm, f2⟩
      have H2 := Lib.hid (And.intro hm (HF1.out.comp f2))
      clear hm f2
      obtain ⟨T, hTs⟩ : ∃ T, w2.heap.size = T := ⟨_, rfl⟩
      by_cases he : E1 = 0
      · subst he
        go_upto_region 10 with fail
        try rw [hTs]
        obtain ⟨W3, hW3⟩ : ∃ W3, w2.alloc (.cells #[.slice ca nc cc, .slice ba nb bc] 26) = W3 := ⟨_, rfl⟩
        rw [hW3]
        have f3 : Fr Nil w2 W3 := by rw [← hW3]; (repeat (first | (with_reducible exact Fr.refl _ _) | (with_reducible assumption) | (with_reducible exact Fr.of_nil (by assumption)) | (with_reducible refine Fr.drew ?_) | (with_reducible refine Fr.drewN ?_ _) | (with_reducible refine Fr.alloc ?_ _) | (with_reducible refine Fr.set ?_ _ _ (by first | (intros; omega) | (simp; done) | (simp; omega))) | (with_reducible refine Fr.via ?_ (by assumption)) | (with_reducible refine Fr.comp ?_ (by assumption))))
        have b3 : Blk W3 T #[.slice ca nc cc, .slice ba nb bc] 26 := by rw [← hW3, ← hTs]; exact Blk.new _ _ _
        have hm3 := H2.out.1.fr f3 (fun _ q => q.elim)
        have hck := acheck_any hm3 HS.out.1.cn HS.out.2.2.1 HS.out.1.ok HS.out.1.ws HS.out.1.cons (by have := HS.out.1.len; omega) (HT.out.fr (H2.out.2.comp f3))
        obtain ⟨⟨RE, RN⟩, hR⟩ : ∃ R, arF M = R := ⟨_, rfl⟩
        rw [hR] at hck
        have z0 := b3.cell 0
        have z1 := b3.cell 1
        simp at z0 z1
        have zl := b3.lt
        have H3 := Lib.hid (And.intro (H2.out.2.comp f3) (And.intro b3 (And.intro hm3 hR)))
        have HK := Lib.hid hck
        clear hW3 f3 b3 hm3 hck hTs hR
        go_wp2_with fail
        refine HK.out.mono ?_
        rintro e w4 ⟨rfl, f4⟩
        have b4 := f4.blk H3.out.2.1 (fun q => q)
        clear z0 z1 zl
        have z0 := b4.cell 0
        have z1 := b4.cell 1
        simp at z0 z1
        have zl := b4.lt
        have hm4 := H3.out.2.2.1.fr f4 (fun _ q => q.elim)
        have hck2 := zcheck_any hm4 HS.out.1.ws HS.out.1.cons (by have := HS.out.1.len; omega)
        rw [HS.out.2.2.2.1, H3.out.2.2.2] at hck2
        have H4 := Lib.hid (H3.out.1.comp f4)
        have HK2 := Lib.hid hck2
        clear f4 b4 hm4 hck2 HK
        go_wp2_with fail
        refine HK2.out.mono ?_
        rintro e w5 ⟨rfl, f5⟩
        have H5 := Lib.hid (H4.out.comp f5)
        clear f5 z0 z1 zl HK2
        go_wp2
        go_ret
        exact ⟨rfl, H5.out⟩
      · have d3 : (E1 == 0) = false := by simpa using he
        go_wp2
        go_ret
        exact ⟨rfl, H2.out.2.comp (by (repeat (first | (with_reducible exact Fr.refl _ _) | (with_reducible assumption) | (with_reducible exact Fr.of_nil (by assumption)) | (with_reducible refine Fr.drew ?_) | (with_reducible refine Fr.drewN ?_ _) | (with_reducible refine Fr.alloc ?_ _) | (with_reducible refine Fr.set ?_ _ _ (by first | (intros; omega) | (simp; done) | (simp; omega))) | (with_reducible refine Fr.via ?_ (by assumption)) | (with_reducible refine Fr.comp ?_ (by assumption)))))⟩
    · have q2 : (100 : Int) < (n.size : Int) := by omega
      go_enter Tryz.func4, Tryz.ntmps4
      go_wp2_with fail
      refine (awake11_any w HT.out).mono ?_
      rintro e w1 ⟨rfl, f1⟩
      have HF := Lib.hid f1
      clear f1
      go_wp2
      go_ret
      exact ⟨rfl, HF.out⟩
  · have q1 : (3000 : Int) < (s.size : Int) := by omega
    go_enter Tryz.func4, Tryz.ntmps4
    go_wp2_with fail
    refine (awake11_any w HT.out).mono ?_
    rintro e w1 ⟨rfl, f1⟩
    have HF := Lib.hid f1
    clear f1
    go_wp2
    go_ret
    exact ⟨rfl, HF.out⟩
end Go.Proofs.YtpjlibbdngnnnaaGreatDoor
