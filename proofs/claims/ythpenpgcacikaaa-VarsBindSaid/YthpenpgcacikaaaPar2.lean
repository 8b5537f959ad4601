/-
  Reading tokens (layer 8): need, token, names, starts. No conditions.
-/
import Derived.Test.YthpenpgcacikaaaPar1
namespace Go.Proofs.Ythpenpgcacikaaa
set_option linter.unusedSimpArgs false
set_option linter.unusedVariables false
open Go.RowKit

section
variable {w : World} {pb : Nat} {vT : Value} {L : List TokV} {s : PS}
set_option maxRecDepth 100000 in
theorem pneed_any (x : List UInt8) (h : PAt w pb vT L s) :
    Calls Try.prog 40 #[.pointer (some ⟨pb, 0, none⟩), .string ⟨x.toArray⟩] w fun r w' => r = .returned (.tuple #[]) ∧ PAt w' pb vT L (needF L x s) ∧ Fr (fun b => b = pb) w w' := by
  obtain ⟨p0, p1, p2, p3, pf, pl⟩ := h.facts
  have HP := Lib.hid h
  have HS := Lib.hid (psees_any x h)
  by_cases he : s.e = 0
  · have i2 : (s.e : Int) = 0 := by omega
    rw [i2] at p2
    by_cases hx : seesF L x s = true
    · have hlt := sees_lt hx
      have hsz := h.sz
      have e1 : needF L x s = { s with at_ := s.at_ + 1 } := by unfold needF; rw [if_pos ⟨he, hx⟩]
      rw [e1]
      rw [hx] at HS
      have i3 : IntKind.i64.wrap ((s.at_ : Int) + 1) = (s.at_ : Int) + 1 := by rw [IntKind.wrap_i64]; omega
      have HE := Lib.hid he
      clear h e1 he i2
      go_enter Try.func40, Try.ntmps40
      go_wp2_with fail
      refine HS.out.mono ?_
      rintro e w1 ⟨rfl, f1⟩
      have h1 := HP.out.fr f1
      obtain ⟨p0, p1, p2, p3, pf, pl⟩ := h1.facts
      have H1 := Lib.hid (And.intro h1 f1)
      clear h1
      go_wp2
      ((try simp only [Exit.inBlock, Exit.then]); refine bodyPost_ret (results_none rfl _ _ _) rfl ?_)
      have f2 : Fr (fun b => b = pb) w1 (w1.setCell ⟨pb, 1, none⟩ (.int .i64 ((s.at_ : Int) + 1))) := by (repeat (first | (with_reducible exact Fr.refl _ _) | (with_reducible assumption) | (with_reducible exact Fr.of_nil (by assumption)) | (with_reducible refine Fr.drew ?_) | (with_reducible refine Fr.drewN ?_ _) | (with_reducible refine Fr.alloc ?_ _) | (with_reducible refine Fr.set ?_ _ _ (by first | (intro _; exact rfl) | (intro _; exact .inl rfl) | (intro _; exact .inr rfl) | (intro q; exact absurd q (Nat.lt_irrefl _)) | (intro q; simp at q; omega))) | (with_reducible refine Fr.via ?_ (by assumption)) | (with_reducible refine Fr.comp ?_ (by assumption))))
      refine ⟨rfl, H1.out.1.to (t := { s with at_ := s.at_ + 1 }) f2 (by (unfold Blk; simp (disch := first | omega | (simp; done) | (simp; omega)) only [hp_drew, hp_drewN, hp_alloc, hp_other, hp_same, hp_new, upd_cells, Option.map_some, (H1.out.1.blk).eq]); simp) hlt, (Fr.of_nil H1.out.2).comp f2⟩
    · have e1 : needF L x s = faultF L 3 s := by unfold needF; rw [if_neg (fun q => hx q.2)]
      rw [e1]
      rw [show seesF L x s = false by simpa using hx] at HS
      clear h e1 he i2
      go_enter Try.func40, Try.ntmps40
      go_wp2_with fail
      refine HS.out.mono ?_
      rintro e w1 ⟨rfl, f1⟩
      go_wp2_with fail
      refine (pfault_any 3 (HP.out.fr f1)).mono ?_
      rintro e w2 ⟨rfl, h2, f2⟩
      go_wp2
      go_end0
      exact ⟨rfl, h2, (Fr.of_nil f1).comp f2⟩
  · have e1 : needF L x s = faultF L 3 s := by unfold needF; rw [if_neg (fun q => he q.1)]
    rw [e1]
    have i2 : ¬ (s.e : Int) = 0 := by omega
    have d2 := decide_eq_false i2
    have d3 : ((s.e : Int) == 0) = false := by simpa using i2
    clear h e1
    go_enter Try.func40, Try.ntmps40
    go_wp2_with fail
    refine (pfault_any 3 HP.out).mono ?_
    rintro e w2 ⟨rfl, h2, f2⟩
    go_wp2
    go_end0
    exact ⟨rfl, h2, f2⟩
set_option maxRecDepth 100000 in
theorem ptoken_any (k : Int) (hk : k ≠ 0) (h : PAt w pb vT L s) :
    Calls Try.prog 59 #[.pointer (some ⟨pb, 0, none⟩), .int .i64 k] w fun r w' => r = .returned (tokV (tokenF L k s).1) ∧ PAt w' pb vT L (tokenF L k s).2 ∧ Fr (fun b => b = pb) w w' := by
  obtain ⟨p0, p1, p2, p3, pf, pl⟩ := h.facts
  have HP := Lib.hid h
  have HK := Lib.hid (fun w' (f : Fr Nil w w') => pkind_any (h.fr f))
  by_cases he : s.e = 0
  · have i2 : (s.e : Int) = 0 := by omega
    rw [i2] at p2
    by_cases hx : kindP L s = k
    · have hlt := kind_lt hx hk
      have hsz := h.sz
      have e1 : tokenF L k s = (L[s.at_], { s with at_ := s.at_ + 1 }) := by unfold tokenF; rw [if_pos ⟨he, hx⟩, List.getElem?_eq_getElem hlt]; rfl
      rw [e1]
      obtain ⟨tk, htk⟩ : ∃ tk, L[s.at_] = tk := ⟨_, rfl⟩
      rw [htk]
      rw [hx] at HK
      have i3 : IntKind.i64.wrap ((s.at_ : Int) + 1) = (s.at_ : Int) + 1 := by rw [IntKind.wrap_i64]; omega
      have i4 : IntKind.i64.wrap ((s.at_ : Int) + 1 - 1) = (s.at_ : Int) := by rw [IntKind.wrap_i64]; omega
      have i5 : IntKind.i64.wrap (s.at_ : Int) = (s.at_ : Int) := by rw [IntKind.wrap_i64]; omega
      obtain ⟨n, hn⟩ : ∃ n, L.length = n := ⟨_, rfl⟩
      obtain ⟨a, cap, rfl⟩ := h.toks.shape
      have i6 : (s.at_ : Int) < (n : Int) := by omega
      have i7 : (0 : Int) ≤ (s.at_ : Int) := by omega
      have HN := Lib.hid (And.intro htk hn)
      clear h e1 he i2 htk hn
      go_enter Try.func59, Try.ntmps59
      go_wp2_with fail
      refine (HK.out _ (by (repeat (first | (with_reducible exact Fr.refl _ _) | (with_reducible assumption) | (with_reducible exact Fr.of_nil (by assumption)) | (with_reducible refine Fr.drew ?_) | (with_reducible refine Fr.drewN ?_ _) | (with_reducible refine Fr.alloc ?_ _) | (with_reducible refine Fr.set ?_ _ _ (by first | (intros; omega) | (simp; done) | (simp; omega))) | (with_reducible refine Fr.via ?_ (by assumption)) | (with_reducible refine Fr.comp ?_ (by assumption)))))).mono ?_
      rintro e w1 ⟨rfl, f1⟩
      have fA : Fr Nil w w1 := Fr.trans (S := Nil) (by (repeat (first | (with_reducible exact Fr.refl _ _) | (with_reducible assumption) | (with_reducible exact Fr.of_nil (by assumption)) | (with_reducible refine Fr.drew ?_) | (with_reducible refine Fr.drewN ?_ _) | (with_reducible refine Fr.alloc ?_ _) | (with_reducible refine Fr.set ?_ _ _ (by first | (intros; omega) | (simp; done) | (simp; omega))) | (with_reducible refine Fr.via ?_ (by assumption)) | (with_reducible refine Fr.comp ?_ (by assumption))))) f1 (fun _ _ q => q)
      have bT := f1.new
      have h1 := HP.out.fr fA
      obtain ⟨p0, p1, p2, p3, pf, pl'⟩ := h1.facts
      rw [HN.out.2] at p0
      go_upto_region 3 with fail
      obtain ⟨V, hV⟩ : ∃ V, w1.setCell ⟨pb, 1, none⟩ (.int .i64 ((s.at_ : Int) + 1)) = V := ⟨_, rfl⟩
      rw [hV]
      obtain ⟨T, hT⟩ : ∃ T, w.heap.size = T := ⟨_, rfl⟩
      rw [hT] at bT pl ⊢
      have hne : pb ≠ T := by omega
      have bV : Blk V pb #[.slice a L.length cap, .int .i64 ((s.at_ : Int) + 1), .int .i64 (s.e : Int), .int .i64 (s.line : Int)] 85 := by
        rw [← hV]
        (unfold Blk; simp (disch := first | omega | (simp; done) | (simp; omega)) only [hp_drew, hp_drewN, hp_alloc, hp_other, hp_same, hp_new, upd_cells, Option.map_some, (h1.blk).eq])
        simp
      have fV : Fr (fun b => b = pb) w1 V := by rw [← hV]; (repeat (first | (with_reducible exact Fr.refl _ _) | (with_reducible assumption) | (with_reducible exact Fr.of_nil (by assumption)) | (with_reducible refine Fr.drew ?_) | (with_reducible refine Fr.drewN ?_ _) | (with_reducible refine Fr.alloc ?_ _) | (with_reducible refine Fr.set ?_ _ _ (by first | (intro _; exact rfl) | (intro _; exact .inl rfl) | (intro _; exact .inr rfl) | (intro q; exact absurd q (Nat.lt_irrefl _)) | (intro q; simp at q; omega))) | (with_reducible refine Fr.via ?_ (by assumption)) | (with_reducible refine Fr.comp ?_ (by assumption))))
      have bT := fV.blk bT (fun q => hne q.symm)
      obtain ⟨b, off, rfl, hb, hbp, t0, t1, t2, t3, t4⟩ := h1.tok hlt
      rw [HN.out.1] at t0 t1 t2 t3 t4
      have t0 := fV.cell t0 hbp
      have t1 := fV.cell t1 hbp
      have t2 := fV.cell t2 hbp
      have t3 := fV.cell t3 hbp
      have t4 := fV.cell t4 hbp
      have hb := fV.lt hb
      clear hV p0 p1 p2 p3 pf pl'
      have p0 := bV.cell 0
      have p1 := bV.cell 1
      simp only [HN.out.2] at p0
      simp at p0 p1
      have pf := bV.free
      have pl' := bV.lt
      have hTl := bT.lt
      have hTf := bT.free
      have hT0 := bT.cell 0
      have hT1 := bT.cell 1
      have hT2 := bT.cell 2
      have hT3 := bT.cell 3
      have hT4 := bT.cell 4
      simp at hT0 hT1 hT2 hT3 hT4
      have fWV : Fr (fun b => b = pb) w V := (Fr.of_nil fA).comp fV
      have HV := Lib.hid (And.intro bV bT)
      clear bV bT fV h1 fA f1
      go_still_tail 11, (by kernel_rfl)
      change wpList _ _ _ _ _ V.drew
      go_wp2
      subst hT
      (try simp only [Exit.inBlock, Exit.then])
      refine bodyPost_ret (v := tokV tk) (by simp [results, Try.results59, go_sem, tokV, *]) rfl ⟨rfl, ?_, ?_⟩
      · refine HP.out.to (t := { s with at_ := s.at_ + 1 }) (by (repeat (first | (with_reducible exact Fr.refl _ _) | (with_reducible assumption) | (with_reducible exact Fr.of_nil (by assumption)) | (with_reducible refine Fr.drew ?_) | (with_reducible refine Fr.drewN ?_ _) | (with_reducible refine Fr.alloc ?_ _) | (with_reducible refine Fr.set ?_ _ _ (by first | (intro _; exact rfl) | (intro _; exact .inl rfl) | (intro _; exact .inr rfl) | (intro q; exact absurd q (Nat.lt_irrefl _)) | (intro q; simp at q; omega))) | (with_reducible refine Fr.via ?_ (by assumption)) | (with_reducible refine Fr.comp ?_ (by assumption))))) ?_ hlt
        (unfold Blk; simp (disch := first | omega | (simp; done) | (simp; omega)) only [hp_drew, hp_drewN, hp_alloc, hp_other, hp_same, hp_new, upd_cells, Option.map_some, (HV.out.1).eq])
        simp
      · (repeat (first | (with_reducible exact Fr.refl _ _) | (with_reducible assumption) | (with_reducible exact Fr.of_nil (by assumption)) | (with_reducible refine Fr.drew ?_) | (with_reducible refine Fr.drewN ?_ _) | (with_reducible refine Fr.alloc ?_ _) | (with_reducible refine Fr.set ?_ _ _ (by first | (intro _; exact rfl) | (intro _; exact .inl rfl) | (intro _; exact .inr rfl) | (intro q; exact absurd q (Nat.lt_irrefl _)) | (intro q; simp at q; omega))) | (with_reducible refine Fr.via ?_ (by assumption)) | (with_reducible refine Fr.comp ?_ (by assumption))))
    · have e1 : tokenF L k s = (none_ 0, faultF L 3 s) := by unfold tokenF; rw [if_neg (fun q => hx q.2)]
      rw [e1]
      generalize kindP L s = kd at hx HK
      have d1 := decide_eq_false hx
      clear h e1 he i2
      go_enter Try.func59, Try.ntmps59
      go_wp2_with fail
      refine (HK.out _ (by (repeat (first | (with_reducible exact Fr.refl _ _) | (with_reducible assumption) | (with_reducible exact Fr.of_nil (by assumption)) | (with_reducible refine Fr.drew ?_) | (with_reducible refine Fr.drewN ?_ _) | (with_reducible refine Fr.alloc ?_ _) | (with_reducible refine Fr.set ?_ _ _ (by first | (intros; omega) | (simp; done) | (simp; omega))) | (with_reducible refine Fr.via ?_ (by assumption)) | (with_reducible refine Fr.comp ?_ (by assumption)))))).mono ?_
      rintro e w1 ⟨rfl, f1⟩
      have fA : Fr Nil w w1 := Fr.trans (S := Nil) (by (repeat (first | (with_reducible exact Fr.refl _ _) | (with_reducible assumption) | (with_reducible exact Fr.of_nil (by assumption)) | (with_reducible refine Fr.drew ?_) | (with_reducible refine Fr.drewN ?_ _) | (with_reducible refine Fr.alloc ?_ _) | (with_reducible refine Fr.set ?_ _ _ (by first | (intros; omega) | (simp; done) | (simp; omega))) | (with_reducible refine Fr.via ?_ (by assumption)) | (with_reducible refine Fr.comp ?_ (by assumption))))) f1 (fun _ _ q => q)
      have bT := f1.new
      go_wp2_with fail
      refine (pfault_any 3 (HP.out.fr fA)).mono ?_
      rintro e w2 ⟨rfl, h2, f2⟩
      have hne : pb ≠ w.heap.size := by omega
      have bT2 := f2.blk bT (fun q => hne q.symm)
      obtain ⟨T, hT⟩ : ∃ T, w.heap.size = T := ⟨_, rfl⟩
      rw [hT] at bT2 pl hne ⊢
      have hTl := bT2.lt
      have hTf := bT2.free
      have hT0 := bT2.cell 0
      have hT1 := bT2.cell 1
      have hT2 := bT2.cell 2
      have hT3 := bT2.cell 3
      have hT4 := bT2.cell 4
      simp at hT0 hT1 hT2 hT3 hT4
      have fW2 : Fr (fun b => b = pb) w w2 := (Fr.of_nil fA).comp f2
      have H2 := Lib.hid (And.intro h2 bT2)
      clear h2 bT2 bT f1 fA f2
      go_wp2
      subst hT
      (try simp only [Exit.inBlock, Exit.then])
      refine bodyPost_ret (v := tokV (none_ 0)) (by simp [results, Try.results59, go_sem, tokV, none_, *]) rfl ⟨rfl, ?_, ?_⟩
      · refine HP.out.to (t := faultF L 3 s) (by (repeat (first | (with_reducible exact Fr.refl _ _) | (with_reducible assumption) | (with_reducible exact Fr.of_nil (by assumption)) | (with_reducible refine Fr.drew ?_) | (with_reducible refine Fr.drewN ?_ _) | (with_reducible refine Fr.alloc ?_ _) | (with_reducible refine Fr.set ?_ _ _ (by first | (intro _; exact rfl) | (intro _; exact .inl rfl) | (intro _; exact .inr rfl) | (intro q; exact absurd q (Nat.lt_irrefl _)) | (intro q; simp at q; omega))) | (with_reducible refine Fr.via ?_ (by assumption)) | (with_reducible refine Fr.comp ?_ (by assumption))))) ?_ H2.out.1.le
        (unfold Blk; simp (disch := first | omega | (simp; done) | (simp; omega)) only [hp_drew, hp_drewN, hp_alloc, hp_other, hp_same, hp_new, upd_cells, Option.map_some, (H2.out.1.blk).eq])
      · (repeat (first | (with_reducible exact Fr.refl _ _) | (with_reducible assumption) | (with_reducible exact Fr.of_nil (by assumption)) | (with_reducible refine Fr.drew ?_) | (with_reducible refine Fr.drewN ?_ _) | (with_reducible refine Fr.alloc ?_ _) | (with_reducible refine Fr.set ?_ _ _ (by first | (intro _; exact rfl) | (intro _; exact .inl rfl) | (intro _; exact .inr rfl) | (intro q; exact absurd q (Nat.lt_irrefl _)) | (intro q; simp at q; omega))) | (with_reducible refine Fr.via ?_ (by assumption)) | (with_reducible refine Fr.comp ?_ (by assumption))))
  · have e1 : tokenF L k s = (none_ 0, faultF L 3 s) := by unfold tokenF; rw [if_neg (fun q => he q.1)]
    rw [e1]
    have i2 : ¬ (s.e : Int) = 0 := by omega
    have d2 := decide_eq_false i2
    have d3 : ((s.e : Int) == 0) = false := by simpa using i2
    clear h e1
    go_enter Try.func59, Try.ntmps59
    go_wp2_with fail
    have bT : Blk (w.alloc (.cells #[.int .i64 0, .string ⟨#[]⟩, .bool false, .int .u64 0, .int .i64 0] 80)) w.heap.size #[.int .i64 0, .string ⟨#[]⟩, .bool false, .int .u64 0, .int .i64 0] 80 := Blk.new _ _ _
    have fA : Fr Nil w (w.alloc (.cells #[.int .i64 0, .string ⟨#[]⟩, .bool false, .int .u64 0, .int .i64 0] 80)) := by (repeat (first | (with_reducible exact Fr.refl _ _) | (with_reducible assumption) | (with_reducible exact Fr.of_nil (by assumption)) | (with_reducible refine Fr.drew ?_) | (with_reducible refine Fr.drewN ?_ _) | (with_reducible refine Fr.alloc ?_ _) | (with_reducible refine Fr.set ?_ _ _ (by first | (intros; omega) | (simp; done) | (simp; omega))) | (with_reducible refine Fr.via ?_ (by assumption)) | (with_reducible refine Fr.comp ?_ (by assumption))))
    refine (pfault_any 3 (HP.out.fr fA)).mono ?_
    rintro e w2 ⟨rfl, h2, f2⟩
    have hne : pb ≠ w.heap.size := by omega
    have bT2 := f2.blk bT (fun q => hne q.symm)
    obtain ⟨T, hT⟩ : ∃ T, w.heap.size = T := ⟨_, rfl⟩
    rw [hT] at bT2 pl hne ⊢
    have hTl := bT2.lt
    have hTf := bT2.free
    have hT0 := bT2.cell 0
    have hT1 := bT2.cell 1
    have hT2 := bT2.cell 2
    have hT3 := bT2.cell 3
    have hT4 := bT2.cell 4
    simp at hT0 hT1 hT2 hT3 hT4
    have fW2 : Fr (fun b => b = pb) w w2 := (Fr.of_nil fA).comp f2
    have H2 := Lib.hid (And.intro h2 bT2)
    clear h2 bT2 bT fA f2
    go_wp2
    subst hT
    (try simp only [Exit.inBlock, Exit.then])
    refine bodyPost_ret (v := tokV (none_ 0)) (by simp [results, Try.results59, go_sem, tokV, none_, *]) rfl ⟨rfl, ?_, ?_⟩
    · refine HP.out.to (t := faultF L 3 s) (by (repeat (first | (with_reducible exact Fr.refl _ _) | (with_reducible assumption) | (with_reducible exact Fr.of_nil (by assumption)) | (with_reducible refine Fr.drew ?_) | (with_reducible refine Fr.drewN ?_ _) | (with_reducible refine Fr.alloc ?_ _) | (with_reducible refine Fr.set ?_ _ _ (by first | (intro _; exact rfl) | (intro _; exact .inl rfl) | (intro _; exact .inr rfl) | (intro q; exact absurd q (Nat.lt_irrefl _)) | (intro q; simp at q; omega))) | (with_reducible refine Fr.via ?_ (by assumption)) | (with_reducible refine Fr.comp ?_ (by assumption))))) ?_ H2.out.1.le
      (unfold Blk; simp (disch := first | omega | (simp; done) | (simp; omega)) only [hp_drew, hp_drewN, hp_alloc, hp_other, hp_same, hp_new, upd_cells, Option.map_some, (H2.out.1.blk).eq])
    · (repeat (first | (with_reducible exact Fr.refl _ _) | (with_reducible assumption) | (with_reducible exact Fr.of_nil (by assumption)) | (with_reducible refine Fr.drew ?_) | (with_reducible refine Fr.drewN ?_ _) | (with_reducible refine Fr.alloc ?_ _) | (with_reducible refine Fr.set ?_ _ _ (by first | (intro _; exact rfl) | (intro _; exact .inl rfl) | (intro _; exact .inr rfl) | (intro q; exact absurd q (Nat.lt_irrefl _)) | (intro q; simp at q; omega))) | (with_reducible refine Fr.via ?_ (by assumption)) | (with_reducible refine Fr.comp ?_ (by assumption))))
end
end Go.Proofs.Ythpenpgcacikaaa
