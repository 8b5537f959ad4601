/-
  Layer 5: the document's example. No conditions.
-/
import Derived.Test.YtlpdlhmdhlcdlaaL05b
namespace Go.Proofs.Ytlpdlhmdhlcdlaa
set_option linter.unusedSimpArgs false
set_option linter.unusedVariables false
open Go.RowKit

set_option maxRecDepth 100000 in
theorem awake_any (w : World) : Calls Try.prog 7 #[] w fun e w' => e = .returned (.bool true) ∧ Fr Nil w w' := by
  have hm := made_any 9 w (by omega) (by omega)
  rw [show ((9 : Nat) : Int) = 9 from rfl] at hm
  have HM := Lib.hid hm
  clear hm
  go_enter Try.func7, Try.ntmps7
  go_wp2_with fail
  refine HM.out.mono ?_
  rintro e w1 ⟨ba, bw, rg, sb, rfl, h1, _, s1, s2, s3, s4, f1⟩
  have hg1 := rgrow_in rg ba bw 9 _ 0 w1 h1 1 (by omega) (by omega) (fun x hx => by simp [Seg4.all] at hx) (by omega)
  rw [show ((1 : Nat) : Int) = 1 from rfl] at hg1
  have H1 := Lib.hid (And.intro s1 (And.intro s2 (And.intro s3 s4)))
  have G1 := Lib.hid hg1
  clear h1 hg1 s1 s2 s3 s4
  go_wp2_with fail
  refine G1.out.mono ?_
  rintro e w2 ⟨rfl, ⟨u2, h2, hu2⟩, f2⟩
  have hg2 := rgrow_in rg ba bw 9 _ u2 w2 h2 5 (by omega) (by omega) (fun x hx => by simp [Seg4.all] at hx; omega) (by omega)
  rw [show ((5 : Nat) : Int) = 5 from rfl] at hg2
  have G2 := Lib.hid hg2
  clear h2 hg2
  go_wp2_with fail
  refine G2.out.mono ?_
  rintro e w3 ⟨rfl, ⟨u3, h3, hu3⟩, f3⟩
  have hg3 := ralloc_some rg ba bw 9 u3 w3 [1] [] [] [] 5 h3 (by omega)
  rw [show ((5 : Nat) : Int) = 5 from rfl] at hg3
  have G3 := Lib.hid hg3
  clear h3 hg3
  go_wp2_with fail
  refine G3.out.mono ?_
  rintro e w4 ⟨rfl, ⟨u4, h4, hu4⟩, f4⟩
  have G4 := Lib.hid (rbegin_ok rg ba bw 9 u4 w4 [1] ([] ++ [5]) h4)
  clear h4
  go_wp2_with fail
  refine G4.out.mono ?_
  rintro e w5 ⟨rfl, h5, f5⟩
  have G5 := Lib.hid (list_any rg ba bw 9 u4 _ w5 h5 (by omega))
  clear h5
  go_wp2_with fail
  refine G5.out.mono ?_
  rintro e w6 ⟨⟨v0, v1, v2, v3, rfl, r0, r1, r2, r3⟩, _, f6⟩
  have HS := Lib.hid (And.intro r0.toV (And.intro r1.toV (And.intro r2.toV r3.toV)))
  clear r0 r1 r2 r3
  go_wp2_with fail
  refine (same_any [1] ([] ++ [5]) [] [] [1] [5] [] [] v0 v1 v2 v3 _ _ _ _ _ (HS.out.1.fr (by (repeat (first | (with_reducible exact Fr.refl _ _) | (with_reducible assumption) | (with_reducible exact Fr.of_nil (by assumption)) | (with_reducible refine Fr.drew ?_) | (with_reducible refine Fr.drewN ?_ _) | (with_reducible refine Fr.alloc ?_ _) | (with_reducible refine Fr.set ?_ _ _ (by first | (intros; omega) | (simp; done) | (simp; omega))) | (with_reducible refine Fr.via ?_ (by assumption)) | (with_reducible refine Fr.comp ?_ (by assumption)))))) (HS.out.2.1.fr (by (repeat (first | (with_reducible exact Fr.refl _ _) | (with_reducible assumption) | (with_reducible exact Fr.of_nil (by assumption)) | (with_reducible refine Fr.drew ?_) | (with_reducible refine Fr.drewN ?_ _) | (with_reducible refine Fr.alloc ?_ _) | (with_reducible refine Fr.set ?_ _ _ (by first | (intros; omega) | (simp; done) | (simp; omega))) | (with_reducible refine Fr.via ?_ (by assumption)) | (with_reducible refine Fr.comp ?_ (by assumption)))))) (HS.out.2.2.1.fr (by (repeat (first | (with_reducible exact Fr.refl _ _) | (with_reducible assumption) | (with_reducible exact Fr.of_nil (by assumption)) | (with_reducible refine Fr.drew ?_) | (with_reducible refine Fr.drewN ?_ _) | (with_reducible refine Fr.alloc ?_ _) | (with_reducible refine Fr.set ?_ _ _ (by first | (intros; omega) | (simp; done) | (simp; omega))) | (with_reducible refine Fr.via ?_ (by assumption)) | (with_reducible refine Fr.comp ?_ (by assumption)))))) (HS.out.2.2.2.fr (by (repeat (first | (with_reducible exact Fr.refl _ _) | (with_reducible assumption) | (with_reducible exact Fr.of_nil (by assumption)) | (with_reducible refine Fr.drew ?_) | (with_reducible refine Fr.drewN ?_ _) | (with_reducible refine Fr.alloc ?_ _) | (with_reducible refine Fr.set ?_ _ _ (by first | (intros; omega) | (simp; done) | (simp; omega))) | (with_reducible refine Fr.via ?_ (by assumption)) | (with_reducible refine Fr.comp ?_ (by assumption)))))) ?_ ?_ (RowV.nil _) (RowV.nil _) (by simp) (by simp) (by simp) (by simp)).mono ?_
  · exact RowV.one (by simp)
  · exact RowV.one (by simp)
  rintro e w7 ⟨rfl, f7⟩
  go_wp2
  go_ret
  have g6 : Fr Nil w w6 := f1.trans ((f2.comp (f3.comp (f4.comp f5))).comp (ba_rs f6)) (by
    intro k hk q
    obtain ⟨t1, t2, t3, _⟩ := H1.out
    rcases q with q | q | q <;> omega)
  clear f1 f2 f3 f4 f5 f6
  exact ⟨rfl, by (repeat (first | (with_reducible exact Fr.refl _ _) | (with_reducible assumption) | (with_reducible exact Fr.of_nil (by assumption)) | (with_reducible refine Fr.drew ?_) | (with_reducible refine Fr.drewN ?_ _) | (with_reducible refine Fr.alloc ?_ _) | (with_reducible refine Fr.set ?_ _ _ (by first | (intros; omega) | (simp; done) | (simp; omega))) | (with_reducible refine Fr.via ?_ (by assumption)) | (with_reducible refine Fr.comp ?_ (by assumption))))⟩
end Go.Proofs.Ytlpdlhmdhlcdlaa
