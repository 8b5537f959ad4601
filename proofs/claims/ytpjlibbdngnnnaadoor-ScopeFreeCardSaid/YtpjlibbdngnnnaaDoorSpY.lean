/-
  The program's scope (layer 10): an expression, kind by kind; every expression. No conditions.
-/
import Derived.Test.YtpjlibbdngnnnaaDoorSpX
namespace Go.Proofs.YtpjlibbdngnnnaaDoor
set_option linter.unusedSimpArgs false
set_option linter.unusedVariables false
open Go.RowKit

theorem mem_szK {e : TE} : ∀ {ks : List TE}, e ∈ ks → szE e ≤ szK ks
  | x :: l, h => by
    have e1 : szK (x :: l) = szE x + szK l := rfl
    rcases List.mem_cons.1 h with q | q
    · subst q; omega
    · have := mem_szK q; omega
theorem mem_szB {b : TB} : ∀ {bs : List TB}, b ∈ bs → szE b.body ≤ szB bs
  | .mk n p e :: l, h => by
    have e1 : szB (.mk n p e :: l) = szE e + szB l := rfl
    rcases List.mem_cons.1 h with q | q
    · subst q; show szE e ≤ _; omega
    · have := mem_szB q; omega
theorem mem_szA {a : TA} : ∀ {al : List TA}, a ∈ al → szE a.body ≤ szA al
  | .mk k n f b p e :: l, h => by
    have e1 : szA (.mk k n f b p e :: l) = szE e + szA l := rfl
    rcases List.mem_cons.1 h with q | q
    · subst q; show szE e ≤ _; omega
    · have := mem_szA q; omega
section
variable {cons : List (List UInt8)}

set_option maxRecDepth 100000 in
theorem sexpr_var {nm : List UInt8} {fl : Bool} {bi : Nat} {ps : List (List UInt8)} {bs : List TB} (hn : nm.length ≤ maxLen) : ExprOk cons (.mk 1 nm fl bi ps [] bs []) := by
  intro w cb mi i cs hc hm hE hw
  obtain ⟨k', nm', fl', bi', a0, n0, c0, a1, n1, c1, a2, n2, c2, a3, n3, c3, ec⟩ := hE.formE
  have hv := scE_var cons (n := nm) (fl := fl) (bi := bi) (ps := ps) (bs := bs) i
  have ec' : k' = 1 ∧ nm' = ⟨nm.toArray⟩ := by
    cases hE with
    | mk kc bc ac be ae bp an hp hk hk2 hb hb1 hb2 hb3 ha ha1 ha2 ha3 =>
      injection ec with e1 e2
      injection e2 with e2 e3
      injection e1 with _ e1
      injection e2 with e2
      exact ⟨by omega, e2.symm⟩
  obtain ⟨rfl, rfl⟩ := ec'
  subst ec
  obtain ⟨F, hF⟩ : ∃ F, cnt i = F := ⟨_, rfl⟩
  obtain ⟨d, hd⟩ : ∃ d, F nm = d := ⟨_, rfl⟩
  have hmem : d = 0 ↔ nm ∉ i := by rw [← hd, ← hF]; exact cnt_zero
  have HM : Hid (SMap w mi i.length F) := Lib.hid (hF ▸ hm)
  have HC := Lib.hid (And.intro hc (And.intro hm hE))
  have hi9 : i.length ≤ 900000 := by omega
  clear hc hm hE hw hF
  by_cases hz : d = 0
  · have HS := Lib.hid (And.intro hv (hmem.1 hz))
    subst hz
    clear hv hmem
    go_enter Tryd.func67, Tryd.ntmps67
    go_wp2_with (first
      | (at_lookup; refine wp_lookS _ Tryd.underlying62 rfl _ _ rfl mi i.length F rfl (HM.out.frN (by (repeat (first | (with_reducible exact Fr.refl _ _) | (with_reducible assumption) | (with_reducible exact Fr.of_nil (by assumption)) | (with_reducible refine Fr.drew ?_) | (with_reducible refine Fr.drewN ?_ _) | (with_reducible refine Fr.alloc ?_ _) | (with_reducible refine Fr.set ?_ _ _ (by first | (intros; omega) | (simp; done) | (simp; omega))) | (with_reducible refine Fr.via ?_ (by assumption)) | (with_reducible refine Fr.comp ?_ (by assumption)))))) nm rfl hn ?_; rw [hd])
      | fail)
    refine (bad_any (e := 4) (by decide) nm).mono ?_
    rintro e w2 ⟨v, rfl, he, f2⟩
    have g2 : Fr Nil w w2 := Fr.comp (S := Nil) (by (repeat (first | (with_reducible exact Fr.refl _ _) | (with_reducible assumption) | (with_reducible exact Fr.of_nil (by assumption)) | (with_reducible refine Fr.drew ?_) | (with_reducible refine Fr.drewN ?_ _) | (with_reducible refine Fr.alloc ?_ _) | (with_reducible refine Fr.set ?_ _ _ (by first | (intros; omega) | (simp; done) | (simp; omega))) | (with_reducible refine Fr.via ?_ (by assumption)) | (with_reducible refine Fr.comp ?_ (by assumption))))) f2
    have HG := Lib.hid (And.intro he g2)
    clear he f2 g2
    go_wp2
    go_ret
    exact ⟨v, rfl, by rw [HS.out.1, if_neg HS.out.2]; exact HG.out.1, HG.out.2⟩
  · have d1 : (d == 0) = false := by simpa using hz
    have HS := Lib.hid (And.intro hv (Classical.not_not.1 (fun z => hz (hmem.2 z))))
    clear hv hmem hz
    go_enter Tryd.func67, Tryd.ntmps67
    go_wp2_with (first
      | (at_lookup; refine wp_lookS _ Tryd.underlying62 rfl _ _ rfl mi i.length F rfl (HM.out.frN (by (repeat (first | (with_reducible exact Fr.refl _ _) | (with_reducible assumption) | (with_reducible exact Fr.of_nil (by assumption)) | (with_reducible refine Fr.drew ?_) | (with_reducible refine Fr.drewN ?_ _) | (with_reducible refine Fr.alloc ?_ _) | (with_reducible refine Fr.set ?_ _ _ (by first | (intros; omega) | (simp; done) | (simp; omega))) | (with_reducible refine Fr.via ?_ (by assumption)) | (with_reducible refine Fr.comp ?_ (by assumption)))))) nm rfl hn ?_; rw [hd])
      | fail)
    refine (skids_any (cons := cons) (fun e he => by simp at he) (HC.out.1.fr (by (repeat (first | (with_reducible exact Fr.refl _ _) | (with_reducible assumption) | (with_reducible exact Fr.of_nil (by assumption)) | (with_reducible refine Fr.drew ?_) | (with_reducible refine Fr.drewN ?_ _) | (with_reducible refine Fr.alloc ?_ _) | (with_reducible refine Fr.set ?_ _ _ (by first | (intros; omega) | (simp; done) | (simp; omega))) | (with_reducible refine Fr.via ?_ (by assumption)) | (with_reducible refine Fr.comp ?_ (by assumption)))))) (HC.out.2.1.frN (by (repeat (first | (with_reducible exact Fr.refl _ _) | (with_reducible assumption) | (with_reducible exact Fr.of_nil (by assumption)) | (with_reducible refine Fr.drew ?_) | (with_reducible refine Fr.drewN ?_ _) | (with_reducible refine Fr.alloc ?_ _) | (with_reducible refine Fr.set ?_ _ _ (by first | (intros; omega) | (simp; done) | (simp; omega))) | (with_reducible refine Fr.via ?_ (by assumption)) | (with_reducible refine Fr.comp ?_ (by assumption)))))) (HC.out.2.2.frN (by (repeat (first | (with_reducible exact Fr.refl _ _) | (with_reducible assumption) | (with_reducible exact Fr.of_nil (by assumption)) | (with_reducible refine Fr.drew ?_) | (with_reducible refine Fr.drewN ?_ _) | (with_reducible refine Fr.alloc ?_ _) | (with_reducible refine Fr.set ?_ _ _ (by first | (intros; omega) | (simp; done) | (simp; omega))) | (with_reducible refine Fr.via ?_ (by assumption)) | (with_reducible refine Fr.comp ?_ (by assumption)))))) (by simpa [wtK] using hi9)).mono ?_
    rintro e w2 ⟨_, rfl, ⟨gf1, p1, rfl, hE1, hA1⟩, f2⟩
    have hE' := hE1
    unfold Enters at hE'
    have g2 : Fr Nil w w2 := Fr.comp (S := Nil) (by (repeat (first | (with_reducible exact Fr.refl _ _) | (with_reducible assumption) | (with_reducible exact Fr.of_nil (by assumption)) | (with_reducible refine Fr.drew ?_) | (with_reducible refine Fr.drewN ?_ _) | (with_reducible refine Fr.alloc ?_ _) | (with_reducible refine Fr.set ?_ _ _ (by first | (intros; omega) | (simp; done) | (simp; omega))) | (with_reducible refine Fr.via ?_ (by assumption)) | (with_reducible refine Fr.comp ?_ (by assumption))))) f2
    have HA := Lib.hid (And.intro (hA1 w2 (Fr.refl _ _)) g2)
    clear hA1 f2 g2
    go_wp2_with fail
    go_at_fn gf1
    refine HA.out.1.mono ?_
    rintro e w3 ⟨v, rfl, he, f3⟩
    have HG := Lib.hid (And.intro he (HA.out.2.comp f3))
    clear he f3
    go_wp2
    go_ret
    exact ⟨v, rfl, by rw [HS.out.1, if_pos HS.out.2]; exact HG.out.1, HG.out.2⟩

set_option maxRecDepth 100000 in
set_option maxHeartbeats 4000000 in
theorem sexpr_con {nm : List UInt8} {fl : Bool} {bi : Nat} {ps : List (List UInt8)} {ks : List TE} {bs : List TB} (hn : nm.length ≤ maxLen) (hK : ∀ e ∈ ks, ExprOk cons e) : ExprOk cons (.mk 2 nm fl bi ps ks bs []) := by
  intro w cb mi i cs hc hm hE hw
  have hv := scE_con cons (n := nm) (fl := fl) (bi := bi) (ps := ps) (ks := ks) (bs := bs) i
  have hwk : i.length + wtK ks ≤ 900000 := by unfold wtE at hw; omega
  have HE0 := Lib.hid hE
  obtain ⟨a0, c0, a1, c1, a2, c2, a3, c3, kc, bc, ac, rfl, hp, hk, hk2, hb, hb2', ha, ha2⟩ := hE.opened
  obtain ⟨nk, hnk⟩ : ∃ nk, ks.length = nk := ⟨_, rfl⟩
  obtain ⟨nb, hnb⟩ : ∃ nb, bs.length = nb := ⟨_, rfl⟩
  obtain ⟨na, hna⟩ : ∃ na, ([] : List TA).length = na := ⟨_, rfl⟩
  obtain ⟨np, hnp⟩ : ∃ np, ps.length = np := ⟨_, rfl⟩
  rw [hnk] at hk
  rw [hnb] at hb
  rw [hna] at ha
  rw [hnp] at hp
  rw [hnk, hnb, hna, hnp]
  have H0 := Lib.hid (And.intro hK (And.intro hc (And.intro hm (And.intro hw (And.intro hp (And.intro ha (And.intro ha2 (And.intro hna hnp))))))))
  rw [hnk, hnb, hna, hnp] at HE0
  clear hc hm hE hw hp hk hk2 hb hb2' ha ha2 hnk hnb hna hnp
  have HV := Lib.hid (And.intro hv hwk)
  clear hv hwk hK
  obtain ⟨T, hT⟩ : ∃ T, w.heap.size = T := ⟨_, rfl⟩
  go_enter Tryd.func67, Tryd.ntmps67
  go_wp2_with fail
  try rw [hT]
  obtain ⟨W1, hW1⟩ : ∃ W1, ((w.alloc (.cells #[.pointer (some ⟨cb, 0, none⟩)] 60)).alloc (.cells #[.int .i64 2, .string ⟨nm.toArray⟩, .bool fl, .int .u64 (bi : Int), .slice a0 np c0, .slice a1 nk c1, .slice a2 nb c2, .slice a3 na c3] 40)).alloc (.cells #[.map (some mi)] 62) = W1 := ⟨_, rfl⟩
  try rw [hW1]
  have f1 : Fr Nil w W1 := by rw [← hW1]; (repeat (first | (with_reducible exact Fr.refl _ _) | (with_reducible assumption) | (with_reducible exact Fr.of_nil (by assumption)) | (with_reducible refine Fr.drew ?_) | (with_reducible refine Fr.drewN ?_ _) | (with_reducible refine Fr.alloc ?_ _) | (with_reducible refine Fr.set ?_ _ _ (by first | (intros; omega) | (simp; done) | (simp; omega))) | (with_reducible refine Fr.via ?_ (by assumption)) | (with_reducible refine Fr.comp ?_ (by assumption))))
  have b0 : Blk W1 T #[.pointer (some ⟨cb, 0, none⟩)] 60 := by rw [← hW1, ← hT]; (unfold Blk; simp (disch := first | omega | (simp; done) | (simp; omega)) only [hp_drew, hp_drewN, hp_alloc, hp_other, hp_same, hp_new, upd_cells, Option.map_some])
  have b1 : Blk W1 (T + 1) #[.int .i64 2, .string ⟨nm.toArray⟩, .bool fl, .int .u64 (bi : Int), .slice a0 np c0, .slice a1 nk c1, .slice a2 nb c2, .slice a3 na c3] 40 := by rw [← hW1, ← hT]; (unfold Blk; simp (disch := first | omega | (simp; done) | (simp; omega)) only [hp_drew, hp_drewN, hp_alloc, hp_other, hp_same, hp_new, upd_cells, Option.map_some])
  have b2 : Blk W1 (T + 2) #[.map (some mi)] 62 := by rw [← hW1, ← hT]; (unfold Blk; simp (disch := first | omega | (simp; done) | (simp; omega)) only [hp_drew, hp_drewN, hp_alloc, hp_other, hp_same, hp_new, upd_cells, Option.map_some])
  have A1 : FnAt W1 (.func (.func 101) #[] #[.pointer (some ⟨T, 0, none⟩), .pointer (some ⟨T + 1, 0, none⟩)]) (conS cons nm noF) :=
    ⟨_, _, rfl, enters_of Tryd.func101 (by kernel_rfl) rfl, fun w' f => sexpr1_any (H0.out.2.1.fr (f1.comp f)) (f.blk b0 (fun q => q)) (f.blk b1 (fun q => q)) (by simp) hn⟩
  have HA1 := Lib.hid (And.intro A1 f1)
  refine (skids_any H0.out.1 (H0.out.2.1.fr f1) (H0.out.2.2.1.frN f1) (HE0.out.frN f1) HV.out.2).mono ?_
  rintro e w2 ⟨_, rfl, ⟨gf1, p1, rfl, hE1, hA1⟩, f2⟩
  have hv1 := FnAt.mk hE1 hA1
  have HH := Lib.hid (And.intro (HA1.out.1.fr f2) (And.intro hv1 (HA1.out.2.comp f2)))
  clear hE1 hA1 hv1 f2 A1 f1 b0 b1 b2 hW1
  go_wp2_with fail
  refine (first_any (n := 2) (vs := [.func (.func 101) #[] #[.pointer (some ⟨T, 0, none⟩), .pointer (some ⟨T + 1, 0, none⟩)], .func (.func gf1) #[] p1]) (ss := [_, _]) (t := 70) (by (unfold Blk; simp (disch := first | omega | (simp; done) | (simp; omega)) only [hp_drew, hp_drewN, hp_alloc, hp_other, hp_same, hp_new, upd_cells, Option.map_some])) rfl rfl (fns2 (HH.out.1.fr (by (repeat (first | (with_reducible exact Fr.refl _ _) | (with_reducible assumption) | (with_reducible exact Fr.of_nil (by assumption)) | (with_reducible refine Fr.drew ?_) | (with_reducible refine Fr.drewN ?_ _) | (with_reducible refine Fr.alloc ?_ _) | (with_reducible refine Fr.set ?_ _ _ (by first | (intros; omega) | (simp; done) | (simp; omega))) | (with_reducible refine Fr.via ?_ (by assumption)) | (with_reducible refine Fr.comp ?_ (by assumption)))))) (HH.out.2.1.fr (by (repeat (first | (with_reducible exact Fr.refl _ _) | (with_reducible assumption) | (with_reducible exact Fr.of_nil (by assumption)) | (with_reducible refine Fr.drew ?_) | (with_reducible refine Fr.drewN ?_ _) | (with_reducible refine Fr.alloc ?_ _) | (with_reducible refine Fr.set ?_ _ _ (by first | (intros; omega) | (simp; done) | (simp; omega))) | (with_reducible refine Fr.via ?_ (by assumption)) | (with_reducible refine Fr.comp ?_ (by assumption))))))) (by decide)).mono ?_
  rintro e w3 ⟨v, rfl, he, f3⟩
  have g3 : Fr Nil w2 w3 := Fr.comp (S := Nil) (by (repeat (first | (with_reducible exact Fr.refl _ _) | (with_reducible assumption) | (with_reducible exact Fr.of_nil (by assumption)) | (with_reducible refine Fr.drew ?_) | (with_reducible refine Fr.drewN ?_ _) | (with_reducible refine Fr.alloc ?_ _) | (with_reducible refine Fr.set ?_ _ _ (by first | (intros; omega) | (simp; done) | (simp; omega))) | (with_reducible refine Fr.via ?_ (by assumption)) | (with_reducible refine Fr.comp ?_ (by assumption))))) f3
  have HG := Lib.hid (And.intro he (HH.out.2.2.comp g3))
  clear he f3 g3
  go_wp2
  go_ret
  exact ⟨v, rfl, by rw [HV.out.1]; exact HG.out.1, HG.out.2⟩

set_option maxRecDepth 100000 in
theorem sexpr_let {nm : List UInt8} {fl : Bool} {bi : Nat} {ps : List (List UInt8)} {ks : List TE} {bs : List TB} (hob : okB bs) (hK : ∀ e ∈ ks, ExprOk cons e) (hB : ∀ b ∈ bs, ExprOk cons b.body) : ExprOk cons (.mk 6 nm fl bi ps ks bs []) := by
  intro w cb mi i cs hc hm hE hw
  have hv := scE_let cons (n := nm) (fl := fl) (bi := bi) (ps := ps) (ks := ks) (bs := bs) i
  have hwk : i.length + bs.length + wnB bs + wtK ks ≤ 900000 := by unfold wtE at hw; rw [wnB_eq] at hw; omega
  have HE0 := Lib.hid hE
  obtain ⟨a0, c0, a1, c1, a2, c2, a3, c3, kc, bc, ac, rfl, hp, hk, hk2, hb, hb2', ha, ha2⟩ := hE.opened
  obtain ⟨nk, hnk⟩ : ∃ nk, ks.length = nk := ⟨_, rfl⟩
  obtain ⟨nb, hnb⟩ : ∃ nb, bs.length = nb := ⟨_, rfl⟩
  obtain ⟨na, hna⟩ : ∃ na, ([] : List TA).length = na := ⟨_, rfl⟩
  obtain ⟨np, hnp⟩ : ∃ np, ps.length = np := ⟨_, rfl⟩
  rw [hnk] at hk
  rw [hnb] at hb
  rw [hna] at ha
  rw [hnp] at hp
  rw [hnk, hnb, hna, hnp]
  have H0 := Lib.hid (And.intro hK (And.intro hc (And.intro hm (And.intro hw (And.intro hp (And.intro ha (And.intro ha2 (And.intro hna hnp))))))))
  rw [hnk, hnb, hna, hnp] at HE0
  clear hc hm hE hw hp hk hk2 hb hb2' ha ha2 hnk hnb hna hnp
  have HV := Lib.hid (And.intro hv (And.intro hwk hB))
  clear hv hwk hK hB
  go_enter Tryd.func67, Tryd.ntmps67
  go_wp2_with fail
  refine (slet_any H0.out.1 HV.out.2.2 (H0.out.2.1.fr (by (repeat (first | (with_reducible exact Fr.refl _ _) | (with_reducible assumption) | (with_reducible exact Fr.of_nil (by assumption)) | (with_reducible refine Fr.drew ?_) | (with_reducible refine Fr.drewN ?_ _) | (with_reducible refine Fr.alloc ?_ _) | (with_reducible refine Fr.set ?_ _ _ (by first | (intros; omega) | (simp; done) | (simp; omega))) | (with_reducible refine Fr.via ?_ (by assumption)) | (with_reducible refine Fr.comp ?_ (by assumption)))))) (H0.out.2.2.1.frN (by (repeat (first | (with_reducible exact Fr.refl _ _) | (with_reducible assumption) | (with_reducible exact Fr.of_nil (by assumption)) | (with_reducible refine Fr.drew ?_) | (with_reducible refine Fr.drewN ?_ _) | (with_reducible refine Fr.alloc ?_ _) | (with_reducible refine Fr.set ?_ _ _ (by first | (intros; omega) | (simp; done) | (simp; omega))) | (with_reducible refine Fr.via ?_ (by assumption)) | (with_reducible refine Fr.comp ?_ (by assumption)))))) (HE0.out.frN (by (repeat (first | (with_reducible exact Fr.refl _ _) | (with_reducible assumption) | (with_reducible exact Fr.of_nil (by assumption)) | (with_reducible refine Fr.drew ?_) | (with_reducible refine Fr.drewN ?_ _) | (with_reducible refine Fr.alloc ?_ _) | (with_reducible refine Fr.set ?_ _ _ (by first | (intros; omega) | (simp; done) | (simp; omega))) | (with_reducible refine Fr.via ?_ (by assumption)) | (with_reducible refine Fr.comp ?_ (by assumption)))))) hob HV.out.2.1).mono ?_
  rintro e w2 ⟨v, rfl, he, f2⟩
  have g2 : Fr Nil w w2 := Fr.comp (S := Nil) (by (repeat (first | (with_reducible exact Fr.refl _ _) | (with_reducible assumption) | (with_reducible exact Fr.of_nil (by assumption)) | (with_reducible refine Fr.drew ?_) | (with_reducible refine Fr.drewN ?_ _) | (with_reducible refine Fr.alloc ?_ _) | (with_reducible refine Fr.set ?_ _ _ (by first | (intros; omega) | (simp; done) | (simp; omega))) | (with_reducible refine Fr.via ?_ (by assumption)) | (with_reducible refine Fr.comp ?_ (by assumption))))) f2
  have HG := Lib.hid (And.intro he g2)
  clear he f2 g2
  go_wp2
  go_ret
  exact ⟨v, rfl, by rw [HV.out.1]; exact HG.out.1, HG.out.2⟩

set_option maxRecDepth 100000 in
set_option maxHeartbeats 4000000 in
theorem sexpr_case {nm : List UInt8} {fl : Bool} {bi : Nat} {ps : List (List UInt8)} {ks : List TE} {bs : List TB} {al : List TA} (hoa : okA al) (hK : ∀ e ∈ ks, ExprOk cons e) (hA : ∀ a ∈ al, ExprOk cons a.body) : ExprOk cons (.mk 7 nm fl bi ps ks bs al) := by
  intro w cb mi i cs hc hm hE hw
  have hv := scE_case cons (n := nm) (fl := fl) (bi := bi) (ps := ps) (ks := ks) (bs := bs) (al := al) i
  have hwk : i.length + wtK ks + wtA al ≤ 900000 := by unfold wtE at hw; omega
  have HE0 := Lib.hid hE
  obtain ⟨a0, c0, a1, c1, a2, c2, a3, c3, kc, bc, ac, rfl, hp, hk, hk2, hb, hb2', ha, ha2⟩ := hE.opened
  obtain ⟨nk, hnk⟩ : ∃ nk, ks.length = nk := ⟨_, rfl⟩
  obtain ⟨nb, hnb⟩ : ∃ nb, bs.length = nb := ⟨_, rfl⟩
  obtain ⟨na, hna⟩ : ∃ na, al.length = na := ⟨_, rfl⟩
  obtain ⟨np, hnp⟩ : ∃ np, ps.length = np := ⟨_, rfl⟩
  rw [hnk] at hk
  rw [hnb] at hb
  rw [hna] at ha
  rw [hnp] at hp
  rw [hnk, hnb, hna, hnp]
  have H0 := Lib.hid (And.intro hK (And.intro hc (And.intro hm (And.intro hw (And.intro hp (And.intro ha (And.intro ha2 (And.intro hna hnp))))))))
  rw [hnk, hnb, hna, hnp] at HE0
  clear hc hm hE hw hp hk hk2 hb hb2' ha ha2 hnk hnb hna hnp
  have HV := Lib.hid (And.intro hv (And.intro hwk hA))
  clear hv hwk hK hA
  obtain ⟨T, hT⟩ : ∃ T, w.heap.size = T := ⟨_, rfl⟩
  go_enter Tryd.func67, Tryd.ntmps67
  go_upto_region 10 with fail
  try rw [hT]
  obtain ⟨W1, hW1⟩ : ∃ W1, ((w.alloc (.cells #[.pointer (some ⟨cb, 0, none⟩)] 60)).alloc (.cells #[.int .i64 7, .string ⟨nm.toArray⟩, .bool fl, .int .u64 (bi : Int), .slice a0 np c0, .slice a1 nk c1, .slice a2 nb c2, .slice a3 na c3] 40)).alloc (.cells #[.map (some mi)] 62) = W1 := ⟨_, rfl⟩
  try rw [hW1]
  have f1 : Fr Nil w W1 := by rw [← hW1]; (repeat (first | (with_reducible exact Fr.refl _ _) | (with_reducible assumption) | (with_reducible exact Fr.of_nil (by assumption)) | (with_reducible refine Fr.drew ?_) | (with_reducible refine Fr.drewN ?_ _) | (with_reducible refine Fr.alloc ?_ _) | (with_reducible refine Fr.set ?_ _ _ (by first | (intros; omega) | (simp; done) | (simp; omega))) | (with_reducible refine Fr.via ?_ (by assumption)) | (with_reducible refine Fr.comp ?_ (by assumption))))
  have b0 : Blk W1 T #[.pointer (some ⟨cb, 0, none⟩)] 60 := by rw [← hW1, ← hT]; (unfold Blk; simp (disch := first | omega | (simp; done) | (simp; omega)) only [hp_drew, hp_drewN, hp_alloc, hp_other, hp_same, hp_new, upd_cells, Option.map_some])
  have b1 : Blk W1 (T + 1) #[.int .i64 7, .string ⟨nm.toArray⟩, .bool fl, .int .u64 (bi : Int), .slice a0 np c0, .slice a1 nk c1, .slice a2 nb c2, .slice a3 na c3] 40 := by rw [← hW1, ← hT]; (unfold Blk; simp (disch := first | omega | (simp; done) | (simp; omega)) only [hp_drew, hp_drewN, hp_alloc, hp_other, hp_same, hp_new, upd_cells, Option.map_some])
  have b2 : Blk W1 (T + 2) #[.map (some mi)] 62 := by rw [← hW1, ← hT]; (unfold Blk; simp (disch := first | omega | (simp; done) | (simp; omega)) only [hp_drew, hp_drewN, hp_alloc, hp_other, hp_same, hp_new, upd_cells, Option.map_some])
  have HK : Hid (∀ w', Fr Nil W1 w' → w'.cell? ⟨T, 0, none⟩ = some (.pointer (some ⟨cb, 0, none⟩)) ∧ w'.cell? ⟨T + 1, 0, none⟩ = some (.int .i64 7) ∧ w'.cell? ⟨T + 1, 1, none⟩ = some (.string ⟨nm.toArray⟩) ∧ w'.cell? ⟨T + 1, 2, none⟩ = some (.bool fl) ∧ w'.cell? ⟨T + 1, 3, none⟩ = some (.int .u64 (bi : Int)) ∧ w'.cell? ⟨T + 1, 4, none⟩ = some (.slice a0 np c0) ∧ w'.cell? ⟨T + 1, 5, none⟩ = some (.slice a1 nk c1) ∧ w'.cell? ⟨T + 1, 6, none⟩ = some (.slice a2 nb c2) ∧ w'.cell? ⟨T + 1, 7, none⟩ = some (.slice a3 na c3) ∧ w'.cell? ⟨T + 2, 0, none⟩ = some (.map (some mi))) := Lib.hid (fun w' f => by
    have z0 := (f.blk b0 (fun q => q)).cell 0
    have z1 := (f.blk b1 (fun q => q)).cell
    have z2 := (f.blk b2 (fun q => q)).cell 0
    simp at z0 z2
    exact ⟨z0, z1 0, z1 1, z1 2, z1 3, z1 4, z1 5, z1 6, z1 7, z2⟩)
  have l0 := b0.lt
  have l1 := b1.lt
  have l2 := b2.lt
  have LA : ∀ W, Fr Nil W1 W → Calls Tryd.prog 105 #[.slice a3 na c3, .func (.func 106) #[] #[.pointer (some ⟨T, 0, none⟩), .pointer (some ⟨T + 2, 0, none⟩)]] W fun r w' => ∃ v, r = .returned v ∧ FnAt w' v (firstF (al.map (fun a => alt1F cons a i))) ∧ Fr Nil W w' := fun W g =>
    allA_any (w := W) (cs := ac) (ss := al.map (fun a => alt1F cons a i)) (enters_of Tryd.func106 (by kernel_rfl) rfl) H0.out.2.2.2.2.2.1.lenX (fun j hj => (H0.out.2.2.2.2.2.2.1 j (by rw [H0.out.2.2.2.2.2.2.2.1]; exact hj)).formA) (H0.out.2.2.2.2.2.1.frN (f1.comp g)) (by rw [List.length_map, H0.out.2.2.2.2.2.2.2.1]) (fun j hj w' f => by
      have hj' : j < al.length := by simpa using hj
      rw [List.getElem_map]
      have hmm := List.getElem_mem hj'
      have hoo := okA_all hoa hmm
      exact sexpr2_any (HV.out.2.2 _ hmm) (H0.out.2.1.fr ((f1.comp g).comp f)) (H0.out.2.2.1.frN ((f1.comp g).comp f)) ((g.comp f).blk b0 (fun q => q)) ((g.comp f).blk b2 (fun q => q)) ((H0.out.2.2.2.2.2.2.1 j hj').frN ((f1.comp g).comp f)) hoo.1 hoo.2.1 (by have := wtA_mem hmm; have := HV.out.2.1; omega))
  have LK : ∀ W, Fr Nil W1 W → Calls Tryd.prog 103 #[.pointer (some ⟨cb, 0, none⟩), .agg #[.int .i64 7, .string ⟨nm.toArray⟩, .bool fl, .int .u64 (bi : Int), .slice a0 np c0, .slice a1 nk c1, .slice a2 nb c2, .slice a3 na c3], .map (some mi)] W fun r w' => ∃ v, r = .returned v ∧ FnAt w' v (scK cons ks i noF) ∧ Fr Nil W w' := fun W g =>
    skids_any H0.out.1 (H0.out.2.1.fr (f1.comp g)) (H0.out.2.2.1.frN (f1.comp g)) (HE0.out.frN (f1.comp g)) (by have := HV.out.2.1; omega)
  have HLA := Lib.hid LA
  have HLK := Lib.hid LK
  have HF := Lib.hid f1
  clear hW1 f1 b0 b1 b2 LA LK hT
  go_region_held3 (fun w' => w'.cell? ⟨T, 0, none⟩ = some (.pointer (some ⟨cb, 0, none⟩)) ∧ w'.cell? ⟨T + 1, 0, none⟩ = some (.int .i64 7) ∧ w'.cell? ⟨T + 1, 1, none⟩ = some (.string ⟨nm.toArray⟩) ∧ w'.cell? ⟨T + 1, 2, none⟩ = some (.bool fl) ∧ w'.cell? ⟨T + 1, 3, none⟩ = some (.int .u64 (bi : Int)) ∧ w'.cell? ⟨T + 1, 4, none⟩ = some (.slice a0 np c0) ∧ w'.cell? ⟨T + 1, 5, none⟩ = some (.slice a1 nk c1) ∧ w'.cell? ⟨T + 1, 6, none⟩ = some (.slice a2 nb c2) ∧ w'.cell? ⟨T + 1, 7, none⟩ = some (.slice a3 na c3) ∧ w'.cell? ⟨T + 2, 0, none⟩ = some (.map (some mi))) (with_reducible refine HK.out _ ?_; first | assumption | (repeat (first | (with_reducible exact Fr.refl _ _) | (with_reducible assumption) | (with_reducible exact Fr.of_nil (by assumption)) | (with_reducible refine Fr.drew ?_) | (with_reducible refine Fr.drewN ?_ _) | (with_reducible refine Fr.alloc ?_ _) | (with_reducible refine Fr.set ?_ _ _ (by first | (intros; omega) | (simp; done) | (simp; omega))) | (with_reducible refine Fr.via ?_ (by assumption)) | (with_reducible refine Fr.comp ?_ (by assumption))))) (first
    | (go_at_call 25; refine (first_any (n := 2) (vs := [.func (.func gf2) #[] p2, .func (.func gf1) #[] p1]) (ss := [_, _]) (t := 70) (by (unfold Blk; simp (disch := first | omega | (simp; done) | (simp; omega)) only [hp_drew, hp_drewN, hp_alloc, hp_other, hp_same, hp_new, upd_cells, Option.map_some])) rfl rfl (fns2 (hv2.fr (by (repeat (first | (with_reducible exact Fr.refl _ _) | (with_reducible assumption) | (with_reducible exact Fr.of_nil (by assumption)) | (with_reducible refine Fr.drew ?_) | (with_reducible refine Fr.drewN ?_ _) | (with_reducible refine Fr.alloc ?_ _) | (with_reducible refine Fr.set ?_ _ _ (by first | (intros; omega) | (simp; done) | (simp; omega))) | (with_reducible refine Fr.via ?_ (by assumption)) | (with_reducible refine Fr.comp ?_ (by assumption)))))) (hv1.fr (by (repeat (first | (with_reducible exact Fr.refl _ _) | (with_reducible assumption) | (with_reducible exact Fr.of_nil (by assumption)) | (with_reducible refine Fr.drew ?_) | (with_reducible refine Fr.drewN ?_ _) | (with_reducible refine Fr.alloc ?_ _) | (with_reducible refine Fr.set ?_ _ _ (by first | (intros; omega) | (simp; done) | (simp; omega))) | (with_reducible refine Fr.via ?_ (by assumption)) | (with_reducible refine Fr.comp ?_ (by assumption))))))) (by decide)).mono ?_; rintro r wz ⟨v, rfl, he, fz⟩; have gz : Fr Nil W1 wz := Fr.comp (S := Nil) (by first | assumption | (repeat (first | (with_reducible exact Fr.refl _ _) | (with_reducible assumption) | (with_reducible exact Fr.of_nil (by assumption)) | (with_reducible refine Fr.drew ?_) | (with_reducible refine Fr.drewN ?_ _) | (with_reducible refine Fr.alloc ?_ _) | (with_reducible refine Fr.set ?_ _ _ (by first | (intros; omega) | (simp; done) | (simp; omega))) | (with_reducible refine Fr.via ?_ (by assumption)) | (with_reducible refine Fr.comp ?_ (by assumption))))) fz; clear fz)
    | (go_at_call 105; refine (HLA.out _ (by first | assumption | (repeat (first | (with_reducible exact Fr.refl _ _) | (with_reducible assumption) | (with_reducible exact Fr.of_nil (by assumption)) | (with_reducible refine Fr.drew ?_) | (with_reducible refine Fr.drewN ?_ _) | (with_reducible refine Fr.alloc ?_ _) | (with_reducible refine Fr.set ?_ _ _ (by first | (intros; omega) | (simp; done) | (simp; omega))) | (with_reducible refine Fr.via ?_ (by assumption)) | (with_reducible refine Fr.comp ?_ (by assumption)))))).mono ?_; rintro r wa ⟨_, rfl, ⟨gf1, p1, rfl, hE1, hA1⟩, fa⟩; have hv1 := FnAt.mk hE1 hA1; clear hE1 hA1; have ga : Fr Nil W1 wa := Fr.comp (S := Nil) (by first | assumption | (repeat (first | (with_reducible exact Fr.refl _ _) | (with_reducible assumption) | (with_reducible exact Fr.of_nil (by assumption)) | (with_reducible refine Fr.drew ?_) | (with_reducible refine Fr.drewN ?_ _) | (with_reducible refine Fr.alloc ?_ _) | (with_reducible refine Fr.set ?_ _ _ (by first | (intros; omega) | (simp; done) | (simp; omega))) | (with_reducible refine Fr.via ?_ (by assumption)) | (with_reducible refine Fr.comp ?_ (by assumption))))) fa)
    | (go_at_call 103; refine (HLK.out _ (by first | assumption | (repeat (first | (with_reducible exact Fr.refl _ _) | (with_reducible assumption) | (with_reducible exact Fr.of_nil (by assumption)) | (with_reducible refine Fr.drew ?_) | (with_reducible refine Fr.drewN ?_ _) | (with_reducible refine Fr.alloc ?_ _) | (with_reducible refine Fr.set ?_ _ _ (by first | (intros; omega) | (simp; done) | (simp; omega))) | (with_reducible refine Fr.via ?_ (by assumption)) | (with_reducible refine Fr.comp ?_ (by assumption)))))).mono ?_; rintro r wb ⟨_, rfl, ⟨gf2, p2, rfl, hE2, hA2⟩, fb⟩; have hv2 := FnAt.mk hE2 hA2; clear hE2 hA2; have gb : Fr Nil W1 wb := Fr.comp (S := Nil) (by first | assumption | (repeat (first | (with_reducible exact Fr.refl _ _) | (with_reducible assumption) | (with_reducible exact Fr.of_nil (by assumption)) | (with_reducible refine Fr.drew ?_) | (with_reducible refine Fr.drewN ?_ _) | (with_reducible refine Fr.alloc ?_ _) | (with_reducible refine Fr.set ?_ _ _ (by first | (intros; omega) | (simp; done) | (simp; omega))) | (with_reducible refine Fr.via ?_ (by assumption)) | (with_reducible refine Fr.comp ?_ (by assumption))))) fb))
  all_goals
    have HG := Lib.hid (And.intro he (HF.out.comp gz))
    clear he gz
    go_wp2
    go_ret
    exact ⟨v, rfl, by rw [HV.out.1, scA_first]; exact HG.out.1, HG.out.2⟩

set_option maxRecDepth 100000 in
set_option maxHeartbeats 4000000 in
theorem sexpr_lam {nm : List UInt8} {fl : Bool} {bi : Nat} {ps : List (List UInt8)} {ks : List TE} {bs : List TB} (hop : ∀ x ∈ ps, x.length ≤ maxLen) (hK : ∀ e ∈ ks, ExprOk cons e) : ExprOk cons (.mk 8 nm fl bi ps ks bs []) := by
  intro w cb mi i cs hc hm hE hw
  have hv := scE_lam cons (n := nm) (fl := fl) (bi := bi) (ps := ps) (ks := ks) (bs := bs) i
  have hwk : i.length + ps.length + wtK ks ≤ 900000 := by unfold wtE at hw; omega
  have HE0 := Lib.hid hE
  obtain ⟨a0, c0, a1, c1, a2, c2, a3, c3, kc, bc, ac, rfl, hp, hk, hk2, hb, hb2', ha, ha2⟩ := hE.opened
  obtain ⟨nk, hnk⟩ : ∃ nk, ks.length = nk := ⟨_, rfl⟩
  obtain ⟨nb, hnb⟩ : ∃ nb, bs.length = nb := ⟨_, rfl⟩
  obtain ⟨na, hna⟩ : ∃ na, ([] : List TA).length = na := ⟨_, rfl⟩
  obtain ⟨np, hnp⟩ : ∃ np, ps.length = np := ⟨_, rfl⟩
  rw [hnk] at hk
  rw [hnb] at hb
  rw [hna] at ha
  rw [hnp] at hp
  rw [hnk, hnb, hna, hnp]
  have H0 := Lib.hid (And.intro hK (And.intro hc (And.intro hm (And.intro hw (And.intro hp (And.intro ha (And.intro ha2 (And.intro hna hnp))))))))
  rw [hnk, hnb, hna, hnp] at HE0
  clear hc hm hE hw hp hk hk2 hb hb2' ha ha2 hnk hnb hna hnp
  have HV := Lib.hid (And.intro hv hwk)
  clear hv hwk hK
  obtain ⟨T, hT⟩ : ∃ T, w.heap.size = T := ⟨_, rfl⟩
  go_enter Tryd.func67, Tryd.ntmps67
  go_upto_region 12 with fail
  try rw [hT]
  obtain ⟨W1, hW1⟩ : ∃ W1, ((w.alloc (.cells #[.pointer (some ⟨cb, 0, none⟩)] 60)).alloc (.cells #[.int .i64 8, .string ⟨nm.toArray⟩, .bool fl, .int .u64 (bi : Int), .slice a0 np c0, .slice a1 nk c1, .slice a2 nb c2, .slice a3 na c3] 40)).alloc (.cells #[.map (some mi)] 62) = W1 := ⟨_, rfl⟩
  try rw [hW1]
  have f1 : Fr Nil w W1 := by rw [← hW1]; (repeat (first | (with_reducible exact Fr.refl _ _) | (with_reducible assumption) | (with_reducible exact Fr.of_nil (by assumption)) | (with_reducible refine Fr.drew ?_) | (with_reducible refine Fr.drewN ?_ _) | (with_reducible refine Fr.alloc ?_ _) | (with_reducible refine Fr.set ?_ _ _ (by first | (intros; omega) | (simp; done) | (simp; omega))) | (with_reducible refine Fr.via ?_ (by assumption)) | (with_reducible refine Fr.comp ?_ (by assumption))))
  have b0 : Blk W1 T #[.pointer (some ⟨cb, 0, none⟩)] 60 := by rw [← hW1, ← hT]; (unfold Blk; simp (disch := first | omega | (simp; done) | (simp; omega)) only [hp_drew, hp_drewN, hp_alloc, hp_other, hp_same, hp_new, upd_cells, Option.map_some])
  have b1 : Blk W1 (T + 1) #[.int .i64 8, .string ⟨nm.toArray⟩, .bool fl, .int .u64 (bi : Int), .slice a0 np c0, .slice a1 nk c1, .slice a2 nb c2, .slice a3 na c3] 40 := by rw [← hW1, ← hT]; (unfold Blk; simp (disch := first | omega | (simp; done) | (simp; omega)) only [hp_drew, hp_drewN, hp_alloc, hp_other, hp_same, hp_new, upd_cells, Option.map_some])
  have b2 : Blk W1 (T + 2) #[.map (some mi)] 62 := by rw [← hW1, ← hT]; (unfold Blk; simp (disch := first | omega | (simp; done) | (simp; omega)) only [hp_drew, hp_drewN, hp_alloc, hp_other, hp_same, hp_new, upd_cells, Option.map_some])
  have HK : Hid (∀ w', Fr Nil W1 w' → w'.cell? ⟨T, 0, none⟩ = some (.pointer (some ⟨cb, 0, none⟩)) ∧ w'.cell? ⟨T + 1, 0, none⟩ = some (.int .i64 8) ∧ w'.cell? ⟨T + 1, 1, none⟩ = some (.string ⟨nm.toArray⟩) ∧ w'.cell? ⟨T + 1, 2, none⟩ = some (.bool fl) ∧ w'.cell? ⟨T + 1, 3, none⟩ = some (.int .u64 (bi : Int)) ∧ w'.cell? ⟨T + 1, 4, none⟩ = some (.slice a0 np c0) ∧ w'.cell? ⟨T + 1, 5, none⟩ = some (.slice a1 nk c1) ∧ w'.cell? ⟨T + 1, 6, none⟩ = some (.slice a2 nb c2) ∧ w'.cell? ⟨T + 1, 7, none⟩ = some (.slice a3 na c3) ∧ w'.cell? ⟨T + 2, 0, none⟩ = some (.map (some mi))) := Lib.hid (fun w' f => by
    have z0 := (f.blk b0 (fun q => q)).cell 0
    have z1 := (f.blk b1 (fun q => q)).cell
    have z2 := (f.blk b2 (fun q => q)).cell 0
    simp at z0 z2
    exact ⟨z0, z1 0, z1 1, z1 2, z1 3, z1 4, z1 5, z1 6, z1 7, z2⟩)
  have l0 := b0.lt
  have l1 := b1.lt
  have l2 := b2.lt
  have hp1 := H0.out.2.2.2.2.1
  have A1 : FnAt W1 (.func (.func 108) #[] #[.pointer (some ⟨T + 1, 0, none⟩)]) (twF ps noF) :=
    ⟨_, _, rfl, enters_of Tryd.func108 (by kernel_rfl) rfl, fun w' f => sexpr3_any (f.blk b1 (fun q => q)) (by simp) (hp1.frN (f1.comp f)) hop (by have := HV.out.2; omega)⟩
  have LW : ∀ W, Fr Nil W1 W → Calls Tryd.prog 24 #[.map (some mi), .slice a0 np c0] W fun r w' => ∃ mo, r = .returned (.map (some mo)) ∧ SMap w' mo (i ++ ps).length (cnt (i ++ ps)) ∧ Fr Nil W w' := fun W g =>
    with_any (H0.out.2.2.1.frN (f1.comp g)) (hp1.frN (f1.comp g)) hop (by have := HV.out.2; omega)
  have LK : ∀ W mo, Fr Nil W1 W → SMap W mo (i ++ ps).length (cnt (i ++ ps)) → Calls Tryd.prog 103 #[.pointer (some ⟨cb, 0, none⟩), .agg #[.int .i64 8, .string ⟨nm.toArray⟩, .bool fl, .int .u64 (bi : Int), .slice a0 np c0, .slice a1 nk c1, .slice a2 nb c2, .slice a3 na c3], .map (some mo)] W fun r w' => ∃ v, r = .returned v ∧ FnAt w' v (scK cons ks (i ++ ps) noF) ∧ Fr Nil W w' := fun W mo g hmo =>
    skids_any H0.out.1 (H0.out.2.1.fr (f1.comp g)) hmo (HE0.out.frN (f1.comp g)) (by have := HV.out.2; rw [List.length_append]; omega)
  have HA1 := Lib.hid A1
  have HLW := Lib.hid LW
  have HLK := Lib.hid LK
  have HF := Lib.hid f1
  clear hW1 f1 b0 b1 b2 LW LK A1 hp1 hT
  go_region_held3 (fun w' => w'.cell? ⟨T, 0, none⟩ = some (.pointer (some ⟨cb, 0, none⟩)) ∧ w'.cell? ⟨T + 1, 0, none⟩ = some (.int .i64 8) ∧ w'.cell? ⟨T + 1, 1, none⟩ = some (.string ⟨nm.toArray⟩) ∧ w'.cell? ⟨T + 1, 2, none⟩ = some (.bool fl) ∧ w'.cell? ⟨T + 1, 3, none⟩ = some (.int .u64 (bi : Int)) ∧ w'.cell? ⟨T + 1, 4, none⟩ = some (.slice a0 np c0) ∧ w'.cell? ⟨T + 1, 5, none⟩ = some (.slice a1 nk c1) ∧ w'.cell? ⟨T + 1, 6, none⟩ = some (.slice a2 nb c2) ∧ w'.cell? ⟨T + 1, 7, none⟩ = some (.slice a3 na c3) ∧ w'.cell? ⟨T + 2, 0, none⟩ = some (.map (some mi))) (with_reducible refine HK.out _ ?_; first | assumption | (repeat (first | (with_reducible exact Fr.refl _ _) | (with_reducible assumption) | (with_reducible exact Fr.of_nil (by assumption)) | (with_reducible refine Fr.drew ?_) | (with_reducible refine Fr.drewN ?_ _) | (with_reducible refine Fr.alloc ?_ _) | (with_reducible refine Fr.set ?_ _ _ (by first | (intros; omega) | (simp; done) | (simp; omega))) | (with_reducible refine Fr.via ?_ (by assumption)) | (with_reducible refine Fr.comp ?_ (by assumption))))) (first
    | (go_at_call 25; refine (first_any (n := 2) (vs := [.func (.func 108) #[] #[.pointer (some ⟨T + 1, 0, none⟩)], .func (.func gf2) #[] p2]) (ss := [_, _]) (t := 70) (by (unfold Blk; simp (disch := first | omega | (simp; done) | (simp; omega)) only [hp_drew, hp_drewN, hp_alloc, hp_other, hp_same, hp_new, upd_cells, Option.map_some])) rfl rfl (fns2 (HA1.out.fr (by (repeat (first | (with_reducible exact Fr.refl _ _) | (with_reducible assumption) | (with_reducible exact Fr.of_nil (by assumption)) | (with_reducible refine Fr.drew ?_) | (with_reducible refine Fr.drewN ?_ _) | (with_reducible refine Fr.alloc ?_ _) | (with_reducible refine Fr.set ?_ _ _ (by first | (intros; omega) | (simp; done) | (simp; omega))) | (with_reducible refine Fr.via ?_ (by assumption)) | (with_reducible refine Fr.comp ?_ (by assumption)))))) (hv2.fr (by (repeat (first | (with_reducible exact Fr.refl _ _) | (with_reducible assumption) | (with_reducible exact Fr.of_nil (by assumption)) | (with_reducible refine Fr.drew ?_) | (with_reducible refine Fr.drewN ?_ _) | (with_reducible refine Fr.alloc ?_ _) | (with_reducible refine Fr.set ?_ _ _ (by first | (intros; omega) | (simp; done) | (simp; omega))) | (with_reducible refine Fr.via ?_ (by assumption)) | (with_reducible refine Fr.comp ?_ (by assumption))))))) (by decide)).mono ?_; rintro r wz ⟨v, rfl, he, fz⟩; have gz : Fr Nil W1 wz := Fr.comp (S := Nil) (by first | assumption | (repeat (first | (with_reducible exact Fr.refl _ _) | (with_reducible assumption) | (with_reducible exact Fr.of_nil (by assumption)) | (with_reducible refine Fr.drew ?_) | (with_reducible refine Fr.drewN ?_ _) | (with_reducible refine Fr.alloc ?_ _) | (with_reducible refine Fr.set ?_ _ _ (by first | (intros; omega) | (simp; done) | (simp; omega))) | (with_reducible refine Fr.via ?_ (by assumption)) | (with_reducible refine Fr.comp ?_ (by assumption))))) fz; clear fz)
    | (go_at_call 103; refine (HLK.out _ mo (by first | assumption | (repeat (first | (with_reducible exact Fr.refl _ _) | (with_reducible assumption) | (with_reducible exact Fr.of_nil (by assumption)) | (with_reducible refine Fr.drew ?_) | (with_reducible refine Fr.drewN ?_ _) | (with_reducible refine Fr.alloc ?_ _) | (with_reducible refine Fr.set ?_ _ _ (by first | (intros; omega) | (simp; done) | (simp; omega))) | (with_reducible refine Fr.via ?_ (by assumption)) | (with_reducible refine Fr.comp ?_ (by assumption))))) hmo).mono ?_; rintro r wb ⟨_, rfl, ⟨gf2, p2, rfl, hE2, hA2⟩, fb⟩; have hv2 := FnAt.mk hE2 hA2; clear hE2 hA2; have gb : Fr Nil W1 wb := Fr.comp (S := Nil) (by first | assumption | (repeat (first | (with_reducible exact Fr.refl _ _) | (with_reducible assumption) | (with_reducible exact Fr.of_nil (by assumption)) | (with_reducible refine Fr.drew ?_) | (with_reducible refine Fr.drewN ?_ _) | (with_reducible refine Fr.alloc ?_ _) | (with_reducible refine Fr.set ?_ _ _ (by first | (intros; omega) | (simp; done) | (simp; omega))) | (with_reducible refine Fr.via ?_ (by assumption)) | (with_reducible refine Fr.comp ?_ (by assumption))))) fb)
    | (go_at_call 24; refine (HLW.out _ (by first | assumption | (repeat (first | (with_reducible exact Fr.refl _ _) | (with_reducible assumption) | (with_reducible exact Fr.of_nil (by assumption)) | (with_reducible refine Fr.drew ?_) | (with_reducible refine Fr.drewN ?_ _) | (with_reducible refine Fr.alloc ?_ _) | (with_reducible refine Fr.set ?_ _ _ (by first | (intros; omega) | (simp; done) | (simp; omega))) | (with_reducible refine Fr.via ?_ (by assumption)) | (with_reducible refine Fr.comp ?_ (by assumption)))))).mono ?_; rintro r wa ⟨mo, rfl, hmo, fa⟩; have ga : Fr Nil W1 wa := Fr.comp (S := Nil) (by first | assumption | (repeat (first | (with_reducible exact Fr.refl _ _) | (with_reducible assumption) | (with_reducible exact Fr.of_nil (by assumption)) | (with_reducible refine Fr.drew ?_) | (with_reducible refine Fr.drewN ?_ _) | (with_reducible refine Fr.alloc ?_ _) | (with_reducible refine Fr.set ?_ _ _ (by first | (intros; omega) | (simp; done) | (simp; omega))) | (with_reducible refine Fr.via ?_ (by assumption)) | (with_reducible refine Fr.comp ?_ (by assumption))))) fa))
  all_goals
    have HG := Lib.hid (And.intro he (HF.out.comp gz))
    clear he gz
    go_wp2
    go_ret
    exact ⟨v, rfl, by rw [HV.out.1]; exact HG.out.1, HG.out.2⟩

set_option maxRecDepth 100000 in
set_option maxHeartbeats 4000000 in
theorem sexpr_kids {k : Nat} {nm : List UInt8} {fl : Bool} {bi : Nat} {ps : List (List UInt8)} {ks : List TE} {bs : List TB} (h1 : k ≠ 1) (h2 : k ≠ 2) (h6 : k ≠ 6) (h7 : k ≠ 7) (h8 : k ≠ 8) (hK : ∀ e ∈ ks, ExprOk cons e) : ExprOk cons (.mk k nm fl bi ps ks bs []) := by
  intro w cb mi i cs hc hm hE hw
  have hv := scE_kids cons (n := nm) (fl := fl) (bi := bi) (ps := ps) (ks := ks) (bs := bs) h1 h2 h6 h8 i
  have hwk : i.length + wtK ks ≤ 900000 := by unfold wtE at hw; omega
  have d1 : ((k : Int) == 1) = false := by rw [beq_eq_false_iff_ne]; omega
  have d2 : ((k : Int) == 2) = false := by rw [beq_eq_false_iff_ne]; omega
  have d6 : ((k : Int) == 6) = false := by rw [beq_eq_false_iff_ne]; omega
  have d7 : ((k : Int) == 7) = false := by rw [beq_eq_false_iff_ne]; omega
  have d8 : ((k : Int) == 8) = false := by rw [beq_eq_false_iff_ne]; omega
  have HE0 := Lib.hid hE
  obtain ⟨a0, c0, a1, c1, a2, c2, a3, c3, kc, bc, ac, rfl, hp, hk, hk2, hb, hb2', ha, ha2⟩ := hE.opened
  obtain ⟨nk, hnk⟩ : ∃ nk, ks.length = nk := ⟨_, rfl⟩
  obtain ⟨nb, hnb⟩ : ∃ nb, bs.length = nb := ⟨_, rfl⟩
  obtain ⟨na, hna⟩ : ∃ na, ([] : List TA).length = na := ⟨_, rfl⟩
  obtain ⟨np, hnp⟩ : ∃ np, ps.length = np := ⟨_, rfl⟩
  rw [hnk] at hk
  rw [hnb] at hb
  rw [hna] at ha
  rw [hnp] at hp
  rw [hnk, hnb, hna, hnp]
  have H0 := Lib.hid (And.intro hK (And.intro hc (And.intro hm (And.intro hw (And.intro hp (And.intro ha (And.intro ha2 (And.intro hna hnp))))))))
  rw [hnk, hnb, hna, hnp] at HE0
  clear hc hm hE hw hp hk hk2 hb hb2' ha ha2 hnk hnb hna hnp
  have HV := Lib.hid (And.intro hv hwk)
  clear hv hwk hK h1 h2 h6 h7 h8
  go_enter Tryd.func67, Tryd.ntmps67
  go_wp2_with fail
  refine (skids_any H0.out.1 (H0.out.2.1.fr (by (repeat (first | (with_reducible exact Fr.refl _ _) | (with_reducible assumption) | (with_reducible exact Fr.of_nil (by assumption)) | (with_reducible refine Fr.drew ?_) | (with_reducible refine Fr.drewN ?_ _) | (with_reducible refine Fr.alloc ?_ _) | (with_reducible refine Fr.set ?_ _ _ (by first | (intros; omega) | (simp; done) | (simp; omega))) | (with_reducible refine Fr.via ?_ (by assumption)) | (with_reducible refine Fr.comp ?_ (by assumption)))))) (H0.out.2.2.1.frN (by (repeat (first | (with_reducible exact Fr.refl _ _) | (with_reducible assumption) | (with_reducible exact Fr.of_nil (by assumption)) | (with_reducible refine Fr.drew ?_) | (with_reducible refine Fr.drewN ?_ _) | (with_reducible refine Fr.alloc ?_ _) | (with_reducible refine Fr.set ?_ _ _ (by first | (intros; omega) | (simp; done) | (simp; omega))) | (with_reducible refine Fr.via ?_ (by assumption)) | (with_reducible refine Fr.comp ?_ (by assumption)))))) (HE0.out.frN (by (repeat (first | (with_reducible exact Fr.refl _ _) | (with_reducible assumption) | (with_reducible exact Fr.of_nil (by assumption)) | (with_reducible refine Fr.drew ?_) | (with_reducible refine Fr.drewN ?_ _) | (with_reducible refine Fr.alloc ?_ _) | (with_reducible refine Fr.set ?_ _ _ (by first | (intros; omega) | (simp; done) | (simp; omega))) | (with_reducible refine Fr.via ?_ (by assumption)) | (with_reducible refine Fr.comp ?_ (by assumption)))))) HV.out.2).mono ?_
  rintro e w2 ⟨_, rfl, ⟨gf1, p1, rfl, hE1, hA1⟩, f2⟩
  have hE' := hE1
  unfold Enters at hE'
  have g2 : Fr Nil w w2 := Fr.comp (S := Nil) (by (repeat (first | (with_reducible exact Fr.refl _ _) | (with_reducible assumption) | (with_reducible exact Fr.of_nil (by assumption)) | (with_reducible refine Fr.drew ?_) | (with_reducible refine Fr.drewN ?_ _) | (with_reducible refine Fr.alloc ?_ _) | (with_reducible refine Fr.set ?_ _ _ (by first | (intros; omega) | (simp; done) | (simp; omega))) | (with_reducible refine Fr.via ?_ (by assumption)) | (with_reducible refine Fr.comp ?_ (by assumption))))) f2
  have HA := Lib.hid (And.intro (hA1 w2 (Fr.refl _ _)) g2)
  clear hA1 f2 g2
  go_wp2_with fail
  go_at_fn gf1
  refine HA.out.1.mono ?_
  rintro e w3 ⟨v, rfl, he, f3⟩
  have HG := Lib.hid (And.intro he (HA.out.2.comp f3))
  clear he f3
  go_wp2
  go_ret
  exact ⟨v, rfl, by rw [HV.out.1]; exact HG.out.1, HG.out.2⟩
/-- The checker's answer of every expression. -/
theorem sexpr_all : ∀ (m : Nat) (e : TE), szE e ≤ m → okE e → wsE e → ExprOk cons e := by
  intro m
  induction m with
  | zero =>
    intro e he
    cases e with
    | mk k nm fl bi ps ks bs al =>
      have e1 : szE (.mk k nm fl bi ps ks bs al) = 1 + szK ks + szB bs + szA al := rfl
      omega
  | succ m ih =>
    intro e he ho hs
    cases e with
    | mk k nm fl bi ps ks bs al =>
      have e1 : szE (.mk k nm fl bi ps ks bs al) = 1 + szK ks + szB bs + szA al := rfl
      unfold okE at ho
      unfold wsE at hs
      obtain ⟨hn, hop, hok, hob, hoa⟩ := ho
      obtain ⟨⟨q1, q7, q8⟩, hsk, hsb, hsa⟩ := hs
      have hK : ∀ e ∈ ks, ExprOk cons e := fun e h => ih e (by have := mem_szK h; omega) (okK_mem hok h) (wsK_mem hsk h)
      have hB : ∀ b ∈ bs, ExprOk cons b.body := fun b h => ih b.body (by have := mem_szB h; omega) (okB_mem hob h).2.2 (wsB_mem hsb h)
      have hA : ∀ b ∈ al, ExprOk cons b.body := fun b h => ih b.body (by have := mem_szA h; omega) (okA_all hoa h).2.2 (wsA_mem hsa h)
      by_cases h7 : k = 7
      · subst h7
        exact sexpr_case hoa hK hA
      obtain rfl := q7 h7
      by_cases h1 : k = 1
      · subst h1
        obtain rfl := q1 rfl
        exact sexpr_var hn
      by_cases h2 : k = 2
      · subst h2
        exact sexpr_con hn hK
      by_cases h6 : k = 6
      · subst h6
        exact sexpr_let hob hK hB
      by_cases h8 : k = 8
      · subst h8
        exact sexpr_lam hop hK
      exact sexpr_kids h1 h2 h6 h7 h8 hK

end
end Go.Proofs.YtpjlibbdngnnnaaDoor
