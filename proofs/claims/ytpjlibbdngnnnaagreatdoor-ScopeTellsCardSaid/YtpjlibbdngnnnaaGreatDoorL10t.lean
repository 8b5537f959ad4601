/-
  The law ScopeTells, walked (layer 10). Conditions: the listed variable errors.errorType.
-/
import Derived.Test.YtpjlibbdngnnnaaGreatDoorL10
import Derived.Test.YtpjlibbdngnnnaaGreatDoorSz
import Derived.BigQuiet
namespace Go.Proofs.YtpjlibbdngnnnaaGreatDoor
set_option linter.unusedSimpArgs false
set_option linter.unusedVariables false
open Go.RowKit

set_option maxRecDepth 100000 in
set_option maxHeartbeats 8000000 in
theorem tells10_any (s : ByteArray) (w : World) (hT : ErrT w) :
    Calls Tryz.prog 3 #[.string s] w fun r w' => r = .returned (.bool true) ∧ Fr Nil w w' := by
  have HT := Lib.hid hT
  by_cases hs : s.size ≤ 3000
  · have q1 : ¬ (3000 : Int) < (s.size : Int) := by omega
    have hS := parse_src s.data.toList (by rw [size_of]; unfold maxLen; omega)
    obtain ⟨⟨M, E1, E2⟩, hM⟩ : ∃ M, parseF s.data.toList = M := ⟨_, rfl⟩
    have hP := fun w1 => parse_mod s w1 (by omega) hM
    rw [hM] at hS
    obtain ⟨nc, hnc⟩ : ∃ nc, M.cons.length = nc := ⟨_, rfl⟩
    obtain ⟨nb, hnb⟩ : ∃ nb, M.binds.length = nb := ⟨_, rfl⟩
    simp only [hnc, hnb] at hP
    have hS' : SrcOk M := hS
    have hnc9 : nc ≤ 100000 := by have := hS'.cons; omega
    have HS := Lib.hid (And.intro hS' (And.intro hP (And.intro hnc hnb)))
    clear hS hS' hP hM hs hT hnc hnb
    go_enter Tryz.func3, Tryz.ntmps3
    go_wp2_with fail
    refine (awake10_any w HT.out).mono ?_
    rintro e w1 ⟨rfl, f1⟩
    have HF1 := Lib.hid f1
    clear f1
    go_wp2_with fail
    refine (HS.out.2.1 w1).mono ?_
    rintro e w2 ⟨ca, cc, ba, bc, rfl, hm, f2⟩
    have H2 := Lib.hid (And.intro hm (HF1.out.comp f2))
    clear hm f2
    obtain ⟨T, hTs⟩ : ∃ T, w2.heap.size = T := ⟨_, rfl⟩
    by_cases he : E1 = 0
    · subst he
      go_upto_region 8 with fail
      try rw [hTs]
      obtain ⟨W3, hW3⟩ : ∃ W3, w2.alloc (.cells #[.slice ca nc cc, .slice ba nb bc] 26) = W3 := ⟨_, rfl⟩
      rw [hW3]
      have f3 : Fr Nil w2 W3 := by rw [← hW3]; (repeat (first | (with_reducible exact Fr.refl _ _) | (with_reducible assumption) | (with_reducible exact Fr.of_nil (by assumption)) | (with_reducible refine Fr.drew ?_) | (with_reducible refine Fr.drewN ?_ _) | (with_reducible refine Fr.alloc ?_ _) | (with_reducible refine Fr.set ?_ _ _ (by first | (intros; omega) | (simp; done) | (simp; omega))) | (with_reducible refine Fr.via ?_ (by assumption)) | (with_reducible refine Fr.comp ?_ (by assumption))))
      have b3 : Blk W3 T #[.slice ca nc cc, .slice ba nb bc] 26 := by rw [← hW3, ← hTs]; exact Blk.new _ _ _
      have hm3 := H2.out.1.fr f3 (fun _ q => q.elim)
      have hck := scheck_any hm3 HS.out.1.cn HS.out.1.ok HS.out.1.ws HS.out.1.cons (by have := HS.out.1.len; omega) (HT.out.fr (H2.out.2.comp f3))
      obtain ⟨⟨RE, RN⟩, hR⟩ : ∃ R, chkF M = R := ⟨_, rfl⟩
      rw [hR] at hck
      have z0 := b3.cell 0
      have z1 := b3.cell 1
      simp at z0 z1
      have zl := b3.lt
      have H3 := Lib.hid (And.intro (H2.out.2.comp f3) (And.intro b3 (And.intro hm3 hR)))
      have HK := Lib.hid hck
      clear hW3 f3 b3 hm3 hck hTs hR
      go_wp2_with fail
      refine HK.out.mono ?_
      rintro e w4 ⟨rfl, f4⟩
      have b4 := f4.blk H3.out.2.1 (fun q => q)
      clear z0 z1 zl
      have z0 := b4.cell 0
      have z1 := b4.cell 1
      simp at z0 z1
      have zl := b4.lt
      have hm4 := H3.out.2.2.1.fr f4 (fun _ q => q.elim)
      have hck2 := rcheck_any hm4 HS.out.1.cons (by have := HS.out.1.len; omega)
      rw [H3.out.2.2.2] at hck2
      have H4 := Lib.hid (And.intro (H3.out.1.comp f4) (And.intro b4 (And.intro hm4 hck2)))
      clear f4 b4 hm4 hck2 HK
      go_wp2_with fail
      refine H4.out.2.2.2.mono ?_
      rintro e w5 ⟨rfl, f5⟩
      have b5 := f5.blk H4.out.2.1 (fun q => q)
      have hm5 := H4.out.2.2.1.fr f5 (fun _ q => q.elim)
      obtain ⟨n4, hn4⟩ : ∃ n4, (fullD M).length = n4 := ⟨_, rfl⟩
      have hn49 : n4 ≤ 100004 := by
        have : (fullD M).length = 4 + M.cons.length := by simp [fullD]; omega
        have := HS.out.1.cons
        omega
      have L1 : ∀ W, Fr Nil w5 W → Calls Tryz.prog 10 #[.agg #[.slice ca nc cc, .slice ba nb bc]] W fun r w' => ∃ a c, r = .returned (.slice a n4 c) ∧ DeclsAt (fun _ => False) w' (.slice a n4 c) (fullD M) ∧ Fr Nil W w' := fun W g => by
        refine (scons_any (b1 := ba) (nb := nb) (b2 := bc) (RowC.frN hm5.1 g) HS.out.2.2.1 HS.out.1.cons).mono ?_
        rintro e w' ⟨v, rfl, own, f⟩
        have hd : DeclsAt (fun _ => False) w' v (fullD M) := DeclsAt.of_own own (fun b q => q.elim)
        obtain ⟨a, c, rfl⟩ := owns_shape own
        rw [hn4] at hd ⊢
        exact ⟨a, c, rfl, hd, f⟩
      have L2 : ∀ W, Fr Nil w5 W → Calls Tryz.prog 11 #[.agg #[.slice ca nc cc, .slice ba nb bc]] W fun r w' => ∃ a c, r = .returned (.slice a n4 c) ∧ DeclsAt (fun _ => False) w' (.slice a n4 c) (fullD M) ∧ Fr Nil W w' := fun W g => by
        refine (rcons_any (b1 := ba) (nb := nb) (b2 := bc) (RowC.frN hm5.1 g) HS.out.2.2.1 HS.out.1.cons).mono ?_
        rintro e w' ⟨v, rfl, own, f⟩
        have hd : DeclsAt (fun _ => False) w' v (fullD M) := DeclsAt.of_own own (fun b q => q.elim)
        obtain ⟨a, c, rfl⟩ := owns_shape own
        rw [hn4] at hd ⊢
        exact ⟨a, c, rfl, hd, f⟩
      have HL1 := Lib.hid L1
      have HL2 := Lib.hid L2
      have HB5 := Lib.hid b5
      have H5 := Lib.hid (And.intro (H4.out.1.comp f5) hn4)
      have HK5 : Hid (∀ w', Fr Nil w5 w' → w'.cell? ⟨T, 0, none⟩ = some (.slice ca nc cc) ∧ w'.cell? ⟨T, 1, none⟩ = some (.slice ba nb bc)) := Lib.hid (fun w' f => by
        have b := f.blk b5 (fun q => q)
        have y0 := b.cell 0
        have y1 := b.cell 1
        simp at y0 y1
        exact ⟨y0, y1⟩)
      have zl5 := b5.lt
      clear z0 z1 zl L1 L2 b5 hm5 f5 hn4
      go_upto_region 10 with fail
      go_cut [10, 11] (fun s1 s2 wx => ∃ a1 d1 a2 d2, s1 = .slice a1 n4 d1 ∧ s2 = .slice a2 n4 d2 ∧ Hid (DeclsAt (fun _ => False) wx (.slice a1 n4 d1) (fullD M) ∧ DeclsAt (fun _ => False) wx (.slice a2 n4 d2) (fullD M) ∧ Fr Nil w5 wx))
      case first =>
        go_region_held3 (fun w' => w'.cell? ⟨T, 0, none⟩ = some (.slice ca nc cc) ∧ w'.cell? ⟨T, 1, none⟩ = some (.slice ba nb bc)) (with_reducible refine HK5.out _ ?_; first | assumption | (repeat (first | (with_reducible exact Fr.refl _ _) | (with_reducible assumption) | (with_reducible exact Fr.of_nil (by assumption)) | (with_reducible refine Fr.drew ?_) | (with_reducible refine Fr.drewN ?_ _) | (with_reducible refine Fr.alloc ?_ _) | (with_reducible refine Fr.set ?_ _ _ (by first | (intros; omega) | (simp; done) | (simp; omega))) | (with_reducible refine Fr.via ?_ (by assumption)) | (with_reducible refine Fr.comp ?_ (by assumption))))) (first
          | (go_at_call 10; refine (HL1.out _ (by first | assumption | (repeat (first | (with_reducible exact Fr.refl _ _) | (with_reducible assumption) | (with_reducible exact Fr.of_nil (by assumption)) | (with_reducible refine Fr.drew ?_) | (with_reducible refine Fr.drewN ?_ _) | (with_reducible refine Fr.alloc ?_ _) | (with_reducible refine Fr.set ?_ _ _ (by first | (intros; omega) | (simp; done) | (simp; omega))) | (with_reducible refine Fr.via ?_ (by assumption)) | (with_reducible refine Fr.comp ?_ (by assumption)))))).mono ?_; rintro r wa ⟨a1, d1, rfl, hd1, fa⟩; have ga : Fr Nil w5 wa := Fr.comp (S := Nil) (by first | assumption | (repeat (first | (with_reducible exact Fr.refl _ _) | (with_reducible assumption) | (with_reducible exact Fr.of_nil (by assumption)) | (with_reducible refine Fr.drew ?_) | (with_reducible refine Fr.drewN ?_ _) | (with_reducible refine Fr.alloc ?_ _) | (with_reducible refine Fr.set ?_ _ _ (by first | (intros; omega) | (simp; done) | (simp; omega))) | (with_reducible refine Fr.via ?_ (by assumption)) | (with_reducible refine Fr.comp ?_ (by assumption))))) fa)
          | (go_at_call 11; refine (HL2.out _ (by first | assumption | (repeat (first | (with_reducible exact Fr.refl _ _) | (with_reducible assumption) | (with_reducible exact Fr.of_nil (by assumption)) | (with_reducible refine Fr.drew ?_) | (with_reducible refine Fr.drewN ?_ _) | (with_reducible refine Fr.alloc ?_ _) | (with_reducible refine Fr.set ?_ _ _ (by first | (intros; omega) | (simp; done) | (simp; omega))) | (with_reducible refine Fr.via ?_ (by assumption)) | (with_reducible refine Fr.comp ?_ (by assumption)))))).mono ?_; rintro r wb ⟨a2, d2, rfl, hd2, fb⟩; have gb : Fr Nil w5 wb := Fr.comp (S := Nil) (by first | assumption | (repeat (first | (with_reducible exact Fr.refl _ _) | (with_reducible assumption) | (with_reducible exact Fr.of_nil (by assumption)) | (with_reducible refine Fr.drew ?_) | (with_reducible refine Fr.drewN ?_ _) | (with_reducible refine Fr.alloc ?_ _) | (with_reducible refine Fr.set ?_ _ _ (by first | (intros; omega) | (simp; done) | (simp; omega))) | (with_reducible refine Fr.via ?_ (by assumption)) | (with_reducible refine Fr.comp ?_ (by assumption))))) fb))
        all_goals
          have HH := Lib.hid (And.intro hd1 hd2)
          clear hd1 hd2
          go_wp2_with fail
          go_meet
          case rel => exact ⟨a1, d1, a2, d2, rfl, rfl, Lib.hid ⟨RowC.frN HH.out.1 (by (repeat (first | (with_reducible exact Fr.refl _ _) | (with_reducible assumption) | (with_reducible exact Fr.of_nil (by assumption)) | (with_reducible refine Fr.drew ?_) | (with_reducible refine Fr.drewN ?_ _) | (with_reducible refine Fr.alloc ?_ _) | (with_reducible refine Fr.set ?_ _ _ (by first | (intros; omega) | (simp; done) | (simp; omega))) | (with_reducible refine Fr.via ?_ (by assumption)) | (with_reducible refine Fr.comp ?_ (by assumption))))), RowC.frN HH.out.2 (by (repeat (first | (with_reducible exact Fr.refl _ _) | (with_reducible assumption) | (with_reducible exact Fr.of_nil (by assumption)) | (with_reducible refine Fr.drew ?_) | (with_reducible refine Fr.drewN ?_ _) | (with_reducible refine Fr.alloc ?_ _) | (with_reducible refine Fr.set ?_ _ _ (by first | (intros; omega) | (simp; done) | (simp; omega))) | (with_reducible refine Fr.via ?_ (by assumption)) | (with_reducible refine Fr.comp ?_ (by assumption))))), by (repeat (first | (with_reducible exact Fr.refl _ _) | (with_reducible assumption) | (with_reducible exact Fr.of_nil (by assumption)) | (with_reducible refine Fr.drew ?_) | (with_reducible refine Fr.drewN ?_ _) | (with_reducible refine Fr.alloc ?_ _) | (with_reducible refine Fr.set ?_ _ _ (by first | (intros; omega) | (simp; done) | (simp; omega))) | (with_reducible refine Fr.via ?_ (by assumption)) | (with_reducible refine Fr.comp ?_ (by assumption))))⟩⟩
      case rest =>
        obtain ⟨a1, d1, a2, d2, rfl, rfl, HC⟩ := hcut
        obtain ⟨W6, hW6⟩ : ∃ W, W = wc := ⟨_, rfl⟩
        subst hW6
        clear HL1 HL2 HK5
        go_wp2_with fail
        go_loopg [12] n4 (fun g iv wr => ∃ k : Nat, g = n4 - k ∧ k ≤ n4 ∧ iv = .int .i64 (k : Int) ∧ Hid (Fr Nil W6 wr))
        case atStart => exact ⟨0, rfl, by omega, rfl, Lib.hid (Fr.refl _ _)⟩
        case round =>
          obtain ⟨k, rfl, hk, rfl, HR⟩ := hrel
          have j0 : (0 : Int) ≤ (k : Int) := by omega
          by_cases hlt : k < n4
          · have hkD : k < (fullD M).length := by rw [H5.out.2]; exact hlt
            have wkk : IntKind.i64.wrap ((k : Int) + 1) = (k : Int) + 1 := by rw [IntKind.wrap_i64]; omega
            have j1 : (k : Int) < (n4 : Int) := by omega
            obtain ⟨b1, o1, rfl, _, p0, p1⟩ := DeclsAt.cell (RowC.frN HC.out.1 HR.out) k hkD
            obtain ⟨b2, o2, rfl, _, r0, r1⟩ := DeclsAt.cell (RowC.frN HC.out.2.1 HR.out) k hkD
            obtain ⟨x, hx⟩ : ∃ x, (fullD M)[k].1 = x := ⟨_, rfl⟩
            obtain ⟨y, hy⟩ : ∃ y, (fullD M)[k].2 = y := ⟨_, rfl⟩
            rw [hx] at p0 r0
            rw [hy] at p1 r1
            clear hx hy
            go_wp2_with fail
            go_quiet (fail)
            go_wp2
            go_roundg (n4 - (k + 1))
            case rel => exact ⟨k + 1, rfl, by omega, by simp, Lib.hid (Fr.comp (S := Nil) HR.out (by (repeat (first | (with_reducible exact Fr.refl _ _) | (with_reducible assumption) | (with_reducible exact Fr.of_nil (by assumption)) | (with_reducible refine Fr.drew ?_) | (with_reducible refine Fr.drewN ?_ _) | (with_reducible refine Fr.alloc ?_ _) | (with_reducible refine Fr.set ?_ _ _ (by first | (intros; omega) | (simp; done) | (simp; omega))) | (with_reducible refine Fr.via ?_ (by assumption)) | (with_reducible refine Fr.comp ?_ (by assumption))))))⟩
            case measure => omega
          · have j1 : ¬ (k : Int) < (n4 : Int) := by omega
            go_wp2
            go_ret
            exact ⟨rfl, (H5.out.1.comp HC.out.2.2).comp HR.out⟩
    · have d3 : (E1 == 0) = false := by simpa using he
      go_wp2
      go_ret
      exact ⟨rfl, H2.out.2.comp (by (repeat (first | (with_reducible exact Fr.refl _ _) | (with_reducible assumption) | (with_reducible exact Fr.of_nil (by assumption)) | (with_reducible refine Fr.drew ?_) | (with_reducible refine Fr.drewN ?_ _) | (with_reducible refine Fr.alloc ?_ _) | (with_reducible refine Fr.set ?_ _ _ (by first | (intros; omega) | (simp; done) | (simp; omega))) | (with_reducible refine Fr.via ?_ (by assumption)) | (with_reducible refine Fr.comp ?_ (by assumption)))))⟩
  · have q1 : (3000 : Int) < (s.size : Int) := by omega
    go_enter Tryz.func3, Tryz.ntmps3
    go_wp2_with fail
    refine (awake10_any w HT.out).mono ?_
    rintro e w1 ⟨rfl, f1⟩
    have HF := Lib.hid f1
    clear f1
    go_wp2
    go_ret
    exact ⟨rfl, HF.out⟩
end Go.Proofs.YtpjlibbdngnnnaaGreatDoor
