/-
  The program's scope (layer 10): a question asked of each of some things. No conditions.
-/
import Derived.Test.YtpjlibbdngnnnaaDoorSpE
namespace Go.Proofs.YtpjlibbdngnnnaaDoor
set_option linter.unusedSimpArgs false
set_option linter.unusedVariables false
open Go.RowKit

section
variable {w : World} {sa : Option Addr} {n cap : Nat} {cs : Nat → List Value} {ss : List FS} {gf q1 q2 c1 c2 : Nat} {t1 t2 : TypeId}

set_option maxRecDepth 100000 in
set_option maxHeartbeats 4000000 in
theorem allE1_any (hE : Enters Tryd.prog gf) (hn : n ≤ 9223372036854775807) (hform : ∀ i, i < n → FormE (cs i)) (hrow : RowC (fun _ => False) w (.slice sa n cap) n 8 cs) (hss : ss.length = n)
    (hb1 : Blk w q1 #[.slice sa n cap] t1) (hb2 : Blk w q2 #[.func (.func gf) #[] #[.pointer (some ⟨c1, 0, none⟩), .pointer (some ⟨c2, 0, none⟩)]] t2)
    (hstep : ∀ i (h : i < ss.length) w', Fr Nil w w' → Calls Tryd.prog gf #[.agg (cs i).toArray, .pointer (some ⟨c1, 0, none⟩), .pointer (some ⟨c2, 0, none⟩)] w' (Told ss[i] w')) :
    Calls Tryd.prog 139 #[.pointer (some ⟨q1, 0, none⟩), .pointer (some ⟨q2, 0, none⟩)] w (Told (firstF ss) w) := by
  have hE' := hE
  unfold Enters at hE'
  have H0 := Lib.hid (And.intro hform (And.intro hrow (And.intro hss (And.intro hb2 hstep))))
  have t0 := hb1.cell 0
  simp at t0
  have tl := hb1.lt
  clear hform hrow hss hstep hb1 hb2
  go_enter Tryd.func139, Tryd.ntmps139
  go_wp2_with fail
  go_loopg [8] n (fun g iv wr => ∃ k : Nat, g = n - k ∧ k ≤ n ∧ iv = .int .i64 (k : Int) ∧ Hid (Fr Nil w wr ∧ firstF ss = firstF (ss.drop k)))
  case atStart => exact ⟨0, rfl, by omega, rfl, Lib.hid ⟨Fr.refl _ _, rfl⟩⟩
  case round =>
    obtain ⟨kk, rfl, hk, rfl, HS⟩ := hrel
    have i0 : (0 : Int) ≤ (kk : Int) := by omega
    by_cases hlt : kk < n
    · have wkk : IntKind.i64.wrap ((kk : Int) + 1) = (kk : Int) + 1 := by rw [IntKind.wrap_i64]; omega
      have i1 : (kk : Int) < (n : Int) := by omega
      have hks : kk < ss.length := by rw [H0.out.2.2.1]; exact hlt
      have HD := Lib.hid (show firstF (ss.drop kk) = thenF ss[kk] (firstF (ss.drop (kk + 1))) by rw [List.drop_eq_getElem_cons hks]; rfl)
      obtain ⟨s, hsk⟩ : ∃ s, ss[kk] = s := ⟨_, rfl⟩
      rw [hsk] at HD
      have hA := fun w' (f : Fr Nil wr w') => H0.out.2.2.2.2 kk hks w' (HS.out.1.comp f)
      rw [hsk] at hA
      obtain ⟨b, off, rfl, _, hc⟩ := (H0.out.2.1.fr HS.out.1 (fun _ q => q.elim)).at hlt
      obtain ⟨k, nm, fl, bi, a0, n0, c0, a1, n1, c1, a2, n2, c2, a3, n3, c3, ec⟩ := H0.out.1 kk hlt
      rw [ec] at hc hA
      have p0 := hc 0 _ rfl
      have p1 := hc 1 _ rfl
      have p2 := hc 2 _ rfl
      have p3 := hc 3 _ rfl
      have p4 := hc 4 _ rfl
      have p5 := hc 5 _ rfl
      have p6 := hc 6 _ rfl
      have p7 := hc 7 _ rfl
      simp only [Nat.add_zero] at p0
      have b2 := HS.out.1.blk H0.out.2.2.2.1 (fun q => q)
      have u0 := b2.cell 0
      simp at u0
      have ul := b2.lt
      have hbl : b < wr.heap.size := World.block_lt_of_cell? _ _ p0
      have HA := Lib.hid hA
      clear hc ec hA hsk b2
      go_wp2_with fail
      go_at_fn gf
      refine (HA.out _ (by (repeat (first | (with_reducible exact Fr.refl _ _) | (with_reducible assumption) | (with_reducible exact Fr.of_nil (by assumption)) | (with_reducible refine Fr.drew ?_) | (with_reducible refine Fr.drewN ?_ _) | (with_reducible refine Fr.alloc ?_ _) | (with_reducible refine Fr.set ?_ _ _ (by first | (intros; omega) | (simp; done) | (simp; omega))) | (with_reducible refine Fr.via ?_ (by assumption)) | (with_reducible refine Fr.comp ?_ (by assumption)))))).mono ?_
      rintro e w2 ⟨v, rfl, he2, f2⟩
      have g2 : Fr Nil wr w2 := Fr.comp (S := Nil) (by (repeat (first | (with_reducible exact Fr.refl _ _) | (with_reducible assumption) | (with_reducible exact Fr.of_nil (by assumption)) | (with_reducible refine Fr.drew ?_) | (with_reducible refine Fr.drewN ?_ _) | (with_reducible refine Fr.alloc ?_ _) | (with_reducible refine Fr.set ?_ _ _ (by first | (intros; omega) | (simp; done) | (simp; omega))) | (with_reducible refine Fr.via ?_ (by assumption)) | (with_reducible refine Fr.comp ?_ (by assumption))))) f2
      have HG := Lib.hid g2
      clear f2 g2
      rcases he2 with ⟨hz, rfl⟩ | ⟨hz, bx, rfl, hbx⟩
      · have H2 := Lib.hid hz
        clear hz
        go_wp2
        go_roundg (n - (kk + 1))
        case rel => exact ⟨kk + 1, rfl, by omega, by simp, Lib.hid ⟨HS.out.1.comp HG.out, by rw [HS.out.2, HD.out]; exact if_pos H2.out⟩⟩
        case measure => omega
      · have H2 := Lib.hid (And.intro hz hbx)
        clear hz hbx
        go_wp2
        go_ret
        exact ⟨_, rfl, .inr ⟨by rw [HS.out.2, HD.out]; unfold thenF; rw [if_neg H2.out.1]; exact H2.out.1, bx, rfl, by rw [HS.out.2, HD.out]; unfold thenF; rw [if_neg H2.out.1]; exact H2.out.2⟩, HS.out.1.comp HG.out⟩
    · have i1 : ¬ (kk : Int) < (n : Int) := by omega
      obtain rfl : n = kk := by omega
      have HS1 : Hid (firstF ss = noF) := Lib.hid (by
        rw [HS.out.2, List.drop_eq_nil_of_le (by rw [H0.out.2.2.1]; exact Nat.le_refl _)]
        rfl)
      go_wp2
      go_ret
      exact ⟨_, rfl, by rw [HS1.out]; exact ErrAt.none, HS.out.1⟩
set_option maxRecDepth 100000 in
theorem allE_any (hE : Enters Tryd.prog gf) (hn : n ≤ 9223372036854775807) (hform : ∀ i, i < n → FormE (cs i)) (hrow : RowC (fun _ => False) w (.slice sa n cap) n 8 cs) (hss : ss.length = n)
    (hstep : ∀ i (h : i < ss.length) w', Fr Nil w w' → Calls Tryd.prog gf #[.agg (cs i).toArray, .pointer (some ⟨c1, 0, none⟩), .pointer (some ⟨c2, 0, none⟩)] w' (Told ss[i] w')) :
    Calls Tryd.prog 122 #[.slice sa n cap, .func (.func gf) #[] #[.pointer (some ⟨c1, 0, none⟩), .pointer (some ⟨c2, 0, none⟩)]] w fun r w' => ∃ v, r = .returned v ∧ FnAt w' v (firstF ss) ∧ Fr Nil w w' := by
  have H0 := Lib.hid (And.intro hE (And.intro hform (And.intro hrow (And.intro hss hstep))))
  clear hE hform hrow hss hstep
  go_enter Tryd.func122, Tryd.ntmps122
  go_wp2
  go_ret
  refine ⟨_, rfl, ⟨_, _, rfl, enters_of Tryd.func139 (by kernel_rfl) rfl, fun w' f => ?_⟩, by (repeat (first | (with_reducible exact Fr.refl _ _) | (with_reducible assumption) | (with_reducible exact Fr.of_nil (by assumption)) | (with_reducible refine Fr.drew ?_) | (with_reducible refine Fr.drewN ?_ _) | (with_reducible refine Fr.alloc ?_ _) | (with_reducible refine Fr.set ?_ _ _ (by first | (intros; omega) | (simp; done) | (simp; omega))) | (with_reducible refine Fr.via ?_ (by assumption)) | (with_reducible refine Fr.comp ?_ (by assumption))))⟩
  refine allE1_any (t1 := 37) (t2 := 175) H0.out.1 hn H0.out.2.1 (H0.out.2.2.1.fr (S := Nil) (Fr.comp (S := Nil) (by (repeat (first | (with_reducible exact Fr.refl _ _) | (with_reducible assumption) | (with_reducible exact Fr.of_nil (by assumption)) | (with_reducible refine Fr.drew ?_) | (with_reducible refine Fr.drewN ?_ _) | (with_reducible refine Fr.alloc ?_ _) | (with_reducible refine Fr.set ?_ _ _ (by first | (intros; omega) | (simp; done) | (simp; omega))) | (with_reducible refine Fr.via ?_ (by assumption)) | (with_reducible refine Fr.comp ?_ (by assumption))))) f) (fun _ q => q.elim)) H0.out.2.2.2.1 (f.blk (by (unfold Blk; simp (disch := first | omega | (simp; done) | (simp; omega)) only [hp_drew, hp_drewN, hp_alloc, hp_other, hp_same, hp_new, upd_cells, Option.map_some])) (fun q => q)) (f.blk (by (unfold Blk; simp (disch := first | omega | (simp; done) | (simp; omega)) only [hp_drew, hp_drewN, hp_alloc, hp_other, hp_same, hp_new, upd_cells, Option.map_some])) (fun q => q)) (fun i h w2 g => H0.out.2.2.2.2 i h w2 ((Fr.comp (S := Nil) (by (repeat (first | (with_reducible exact Fr.refl _ _) | (with_reducible assumption) | (with_reducible exact Fr.of_nil (by assumption)) | (with_reducible refine Fr.drew ?_) | (with_reducible refine Fr.drewN ?_ _) | (with_reducible refine Fr.alloc ?_ _) | (with_reducible refine Fr.set ?_ _ _ (by first | (intros; omega) | (simp; done) | (simp; omega))) | (with_reducible refine Fr.via ?_ (by assumption)) | (with_reducible refine Fr.comp ?_ (by assumption))))) f).comp g))

set_option maxRecDepth 100000 in
set_option maxHeartbeats 4000000 in
theorem allB1_any (hE : Enters Tryd.prog gf) (hn : n ≤ 9223372036854775807) (hform : ∀ i, i < n → FormB (cs i)) (hrow : RowC (fun _ => False) w (.slice sa n cap) n 10 cs) (hss : ss.length = n)
    (hb1 : Blk w q1 #[.slice sa n cap] t1) (hb2 : Blk w q2 #[.func (.func gf) #[] #[.pointer (some ⟨c1, 0, none⟩), .pointer (some ⟨c2, 0, none⟩)]] t2)
    (hstep : ∀ i (h : i < ss.length) w', Fr Nil w w' → Calls Tryd.prog gf #[.agg (cs i).toArray, .pointer (some ⟨c1, 0, none⟩), .pointer (some ⟨c2, 0, none⟩)] w' (Told ss[i] w')) :
    Calls Tryd.prog 64 #[.pointer (some ⟨q1, 0, none⟩), .pointer (some ⟨q2, 0, none⟩)] w (Told (firstF ss) w) := by
  have hE' := hE
  unfold Enters at hE'
  have H0 := Lib.hid (And.intro hform (And.intro hrow (And.intro hss (And.intro hb2 hstep))))
  have t0 := hb1.cell 0
  simp at t0
  have tl := hb1.lt
  clear hform hrow hss hstep hb1 hb2
  go_enter Tryd.func64, Tryd.ntmps64
  go_wp2_with fail
  go_loopg [8] n (fun g iv wr => ∃ k : Nat, g = n - k ∧ k ≤ n ∧ iv = .int .i64 (k : Int) ∧ Hid (Fr Nil w wr ∧ firstF ss = firstF (ss.drop k)))
  case atStart => exact ⟨0, rfl, by omega, rfl, Lib.hid ⟨Fr.refl _ _, rfl⟩⟩
  case round =>
    obtain ⟨kk, rfl, hk, rfl, HS⟩ := hrel
    have i0 : (0 : Int) ≤ (kk : Int) := by omega
    by_cases hlt : kk < n
    · have wkk : IntKind.i64.wrap ((kk : Int) + 1) = (kk : Int) + 1 := by rw [IntKind.wrap_i64]; omega
      have i1 : (kk : Int) < (n : Int) := by omega
      have hks : kk < ss.length := by rw [H0.out.2.2.1]; exact hlt
      have HD := Lib.hid (show firstF (ss.drop kk) = thenF ss[kk] (firstF (ss.drop (kk + 1))) by rw [List.drop_eq_getElem_cons hks]; rfl)
      obtain ⟨s, hsk⟩ : ∃ s, ss[kk] = s := ⟨_, rfl⟩
      rw [hsk] at HD
      have hA := fun w' (f : Fr Nil wr w') => H0.out.2.2.2.2 kk hks w' (HS.out.1.comp f)
      rw [hsk] at hA
      obtain ⟨b, off, rfl, _, hc⟩ := (H0.out.2.1.fr HS.out.1 (fun _ q => q.elim)).at hlt
      obtain ⟨bn, pa, pn, pc, k, nm, fl, bi, a0, n0, c0, a1, n1, c1, a2, n2, c2, a3, n3, c3, ec⟩ := H0.out.1 kk hlt
      rw [ec] at hc hA
      have p0 := hc 0 _ rfl
      have p1 := hc 1 _ rfl
      have p2 := hc 2 _ rfl
      have p3 := hc 3 _ rfl
      have p4 := hc 4 _ rfl
      have p5 := hc 5 _ rfl
      have p6 := hc 6 _ rfl
      have p7 := hc 7 _ rfl
      have p8 := hc 8 _ rfl
      have p9 := hc 9 _ rfl
      simp only [Nat.add_zero] at p0
      have b2 := HS.out.1.blk H0.out.2.2.2.1 (fun q => q)
      have u0 := b2.cell 0
      simp at u0
      have ul := b2.lt
      have hbl : b < wr.heap.size := World.block_lt_of_cell? _ _ p0
      have HA := Lib.hid hA
      clear hc ec hA hsk b2
      go_wp2_with fail
      go_at_fn gf
      refine (HA.out _ (by (repeat (first | (with_reducible exact Fr.refl _ _) | (with_reducible assumption) | (with_reducible exact Fr.of_nil (by assumption)) | (with_reducible refine Fr.drew ?_) | (with_reducible refine Fr.drewN ?_ _) | (with_reducible refine Fr.alloc ?_ _) | (with_reducible refine Fr.set ?_ _ _ (by first | (intros; omega) | (simp; done) | (simp; omega))) | (with_reducible refine Fr.via ?_ (by assumption)) | (with_reducible refine Fr.comp ?_ (by assumption)))))).mono ?_
      rintro e w2 ⟨v, rfl, he2, f2⟩
      have g2 : Fr Nil wr w2 := Fr.comp (S := Nil) (by (repeat (first | (with_reducible exact Fr.refl _ _) | (with_reducible assumption) | (with_reducible exact Fr.of_nil (by assumption)) | (with_reducible refine Fr.drew ?_) | (with_reducible refine Fr.drewN ?_ _) | (with_reducible refine Fr.alloc ?_ _) | (with_reducible refine Fr.set ?_ _ _ (by first | (intros; omega) | (simp; done) | (simp; omega))) | (with_reducible refine Fr.via ?_ (by assumption)) | (with_reducible refine Fr.comp ?_ (by assumption))))) f2
      have HG := Lib.hid g2
      clear f2 g2
      rcases he2 with ⟨hz, rfl⟩ | ⟨hz, bx, rfl, hbx⟩
      · have H2 := Lib.hid hz
        clear hz
        go_wp2
        go_roundg (n - (kk + 1))
        case rel => exact ⟨kk + 1, rfl, by omega, by simp, Lib.hid ⟨HS.out.1.comp HG.out, by rw [HS.out.2, HD.out]; exact if_pos H2.out⟩⟩
        case measure => omega
      · have H2 := Lib.hid (And.intro hz hbx)
        clear hz hbx
        go_wp2
        go_ret
        exact ⟨_, rfl, .inr ⟨by rw [HS.out.2, HD.out]; unfold thenF; rw [if_neg H2.out.1]; exact H2.out.1, bx, rfl, by rw [HS.out.2, HD.out]; unfold thenF; rw [if_neg H2.out.1]; exact H2.out.2⟩, HS.out.1.comp HG.out⟩
    · have i1 : ¬ (kk : Int) < (n : Int) := by omega
      obtain rfl : n = kk := by omega
      have HS1 : Hid (firstF ss = noF) := Lib.hid (by
        rw [HS.out.2, List.drop_eq_nil_of_le (by rw [H0.out.2.2.1]; exact Nat.le_refl _)]
        rfl)
      go_wp2
      go_ret
      exact ⟨_, rfl, by rw [HS1.out]; exact ErrAt.none, HS.out.1⟩
set_option maxRecDepth 100000 in
theorem allB_any (hE : Enters Tryd.prog gf) (hn : n ≤ 9223372036854775807) (hform : ∀ i, i < n → FormB (cs i)) (hrow : RowC (fun _ => False) w (.slice sa n cap) n 10 cs) (hss : ss.length = n)
    (hstep : ∀ i (h : i < ss.length) w', Fr Nil w w' → Calls Tryd.prog gf #[.agg (cs i).toArray, .pointer (some ⟨c1, 0, none⟩), .pointer (some ⟨c2, 0, none⟩)] w' (Told ss[i] w')) :
    Calls Tryd.prog 31 #[.slice sa n cap, .func (.func gf) #[] #[.pointer (some ⟨c1, 0, none⟩), .pointer (some ⟨c2, 0, none⟩)]] w fun r w' => ∃ v, r = .returned v ∧ FnAt w' v (firstF ss) ∧ Fr Nil w w' := by
  have H0 := Lib.hid (And.intro hE (And.intro hform (And.intro hrow (And.intro hss hstep))))
  clear hE hform hrow hss hstep
  go_enter Tryd.func31, Tryd.ntmps31
  go_wp2
  go_ret
  refine ⟨_, rfl, ⟨_, _, rfl, enters_of Tryd.func64 (by kernel_rfl) rfl, fun w' f => ?_⟩, by (repeat (first | (with_reducible exact Fr.refl _ _) | (with_reducible assumption) | (with_reducible exact Fr.of_nil (by assumption)) | (with_reducible refine Fr.drew ?_) | (with_reducible refine Fr.drewN ?_ _) | (with_reducible refine Fr.alloc ?_ _) | (with_reducible refine Fr.set ?_ _ _ (by first | (intros; omega) | (simp; done) | (simp; omega))) | (with_reducible refine Fr.via ?_ (by assumption)) | (with_reducible refine Fr.comp ?_ (by assumption))))⟩
  refine allB1_any (t1 := 24) (t2 := 74) H0.out.1 hn H0.out.2.1 (H0.out.2.2.1.fr (S := Nil) (Fr.comp (S := Nil) (by (repeat (first | (with_reducible exact Fr.refl _ _) | (with_reducible assumption) | (with_reducible exact Fr.of_nil (by assumption)) | (with_reducible refine Fr.drew ?_) | (with_reducible refine Fr.drewN ?_ _) | (with_reducible refine Fr.alloc ?_ _) | (with_reducible refine Fr.set ?_ _ _ (by first | (intros; omega) | (simp; done) | (simp; omega))) | (with_reducible refine Fr.via ?_ (by assumption)) | (with_reducible refine Fr.comp ?_ (by assumption))))) f) (fun _ q => q.elim)) H0.out.2.2.2.1 (f.blk (by (unfold Blk; simp (disch := first | omega | (simp; done) | (simp; omega)) only [hp_drew, hp_drewN, hp_alloc, hp_other, hp_same, hp_new, upd_cells, Option.map_some])) (fun q => q)) (f.blk (by (unfold Blk; simp (disch := first | omega | (simp; done) | (simp; omega)) only [hp_drew, hp_drewN, hp_alloc, hp_other, hp_same, hp_new, upd_cells, Option.map_some])) (fun q => q)) (fun i h w2 g => H0.out.2.2.2.2 i h w2 ((Fr.comp (S := Nil) (by (repeat (first | (with_reducible exact Fr.refl _ _) | (with_reducible assumption) | (with_reducible exact Fr.of_nil (by assumption)) | (with_reducible refine Fr.drew ?_) | (with_reducible refine Fr.drewN ?_ _) | (with_reducible refine Fr.alloc ?_ _) | (with_reducible refine Fr.set ?_ _ _ (by first | (intros; omega) | (simp; done) | (simp; omega))) | (with_reducible refine Fr.via ?_ (by assumption)) | (with_reducible refine Fr.comp ?_ (by assumption))))) f).comp g))

set_option maxRecDepth 100000 in
set_option maxHeartbeats 4000000 in
theorem allA1_any (hE : Enters Tryd.prog gf) (hn : n ≤ 9223372036854775807) (hform : ∀ i, i < n → FormA (cs i)) (hrow : RowC (fun _ => False) w (.slice sa n cap) n 13 cs) (hss : ss.length = n)
    (hb1 : Blk w q1 #[.slice sa n cap] t1) (hb2 : Blk w q2 #[.func (.func gf) #[] #[.pointer (some ⟨c1, 0, none⟩), .pointer (some ⟨c2, 0, none⟩)]] t2)
    (hstep : ∀ i (h : i < ss.length) w', Fr Nil w w' → Calls Tryd.prog gf #[.agg (cs i).toArray, .pointer (some ⟨c1, 0, none⟩), .pointer (some ⟨c2, 0, none⟩)] w' (Told ss[i] w')) :
    Calls Tryd.prog 126 #[.pointer (some ⟨q1, 0, none⟩), .pointer (some ⟨q2, 0, none⟩)] w (Told (firstF ss) w) := by
  have hE' := hE
  unfold Enters at hE'
  have H0 := Lib.hid (And.intro hform (And.intro hrow (And.intro hss (And.intro hb2 hstep))))
  have t0 := hb1.cell 0
  simp at t0
  have tl := hb1.lt
  clear hform hrow hss hstep hb1 hb2
  go_enter Tryd.func126, Tryd.ntmps126
  go_wp2_with fail
  go_loopg [8] n (fun g iv wr => ∃ k : Nat, g = n - k ∧ k ≤ n ∧ iv = .int .i64 (k : Int) ∧ Hid (Fr Nil w wr ∧ firstF ss = firstF (ss.drop k)))
  case atStart => exact ⟨0, rfl, by omega, rfl, Lib.hid ⟨Fr.refl _ _, rfl⟩⟩
  case round =>
    obtain ⟨kk, rfl, hk, rfl, HS⟩ := hrel
    have i0 : (0 : Int) ≤ (kk : Int) := by omega
    by_cases hlt : kk < n
    · have wkk : IntKind.i64.wrap ((kk : Int) + 1) = (kk : Int) + 1 := by rw [IntKind.wrap_i64]; omega
      have i1 : (kk : Int) < (n : Int) := by omega
      have hks : kk < ss.length := by rw [H0.out.2.2.1]; exact hlt
      have HD := Lib.hid (show firstF (ss.drop kk) = thenF ss[kk] (firstF (ss.drop (kk + 1))) by rw [List.drop_eq_getElem_cons hks]; rfl)
      obtain ⟨s, hsk⟩ : ∃ s, ss[kk] = s := ⟨_, rfl⟩
      rw [hsk] at HD
      have hA := fun w' (f : Fr Nil wr w') => H0.out.2.2.2.2 kk hks w' (HS.out.1.comp f)
      rw [hsk] at hA
      obtain ⟨b, off, rfl, _, hc⟩ := (H0.out.2.1.fr HS.out.1 (fun _ q => q.elim)).at hlt
      obtain ⟨tk, tn, tf, tb, pa, pn, pc, k, nm, fl, bi, a0, n0, c0, a1, n1, c1, a2, n2, c2, a3, n3, c3, ec⟩ := H0.out.1 kk hlt
      rw [ec] at hc hA
      have p0 := hc 0 _ rfl
      have p1 := hc 1 _ rfl
      have p2 := hc 2 _ rfl
      have p3 := hc 3 _ rfl
      have p4 := hc 4 _ rfl
      have p5 := hc 5 _ rfl
      have p6 := hc 6 _ rfl
      have p7 := hc 7 _ rfl
      have p8 := hc 8 _ rfl
      have p9 := hc 9 _ rfl
      have p10 := hc 10 _ rfl
      have p11 := hc 11 _ rfl
      have p12 := hc 12 _ rfl
      simp only [Nat.add_zero] at p0
      have b2 := HS.out.1.blk H0.out.2.2.2.1 (fun q => q)
      have u0 := b2.cell 0
      simp at u0
      have ul := b2.lt
      have hbl : b < wr.heap.size := World.block_lt_of_cell? _ _ p0
      have HA := Lib.hid hA
      clear hc ec hA hsk b2
      go_wp2_with fail
      go_at_fn gf
      refine (HA.out _ (by (repeat (first | (with_reducible exact Fr.refl _ _) | (with_reducible assumption) | (with_reducible exact Fr.of_nil (by assumption)) | (with_reducible refine Fr.drew ?_) | (with_reducible refine Fr.drewN ?_ _) | (with_reducible refine Fr.alloc ?_ _) | (with_reducible refine Fr.set ?_ _ _ (by first | (intros; omega) | (simp; done) | (simp; omega))) | (with_reducible refine Fr.via ?_ (by assumption)) | (with_reducible refine Fr.comp ?_ (by assumption)))))).mono ?_
      rintro e w2 ⟨v, rfl, he2, f2⟩
      have g2 : Fr Nil wr w2 := Fr.comp (S := Nil) (by (repeat (first | (with_reducible exact Fr.refl _ _) | (with_reducible assumption) | (with_reducible exact Fr.of_nil (by assumption)) | (with_reducible refine Fr.drew ?_) | (with_reducible refine Fr.drewN ?_ _) | (with_reducible refine Fr.alloc ?_ _) | (with_reducible refine Fr.set ?_ _ _ (by first | (intros; omega) | (simp; done) | (simp; omega))) | (with_reducible refine Fr.via ?_ (by assumption)) | (with_reducible refine Fr.comp ?_ (by assumption))))) f2
      have HG := Lib.hid g2
      clear f2 g2
      rcases he2 with ⟨hz, rfl⟩ | ⟨hz, bx, rfl, hbx⟩
      · have H2 := Lib.hid hz
        clear hz
        go_wp2
        go_roundg (n - (kk + 1))
        case rel => exact ⟨kk + 1, rfl, by omega, by simp, Lib.hid ⟨HS.out.1.comp HG.out, by rw [HS.out.2, HD.out]; exact if_pos H2.out⟩⟩
        case measure => omega
      · have H2 := Lib.hid (And.intro hz hbx)
        clear hz hbx
        go_wp2
        go_ret
        exact ⟨_, rfl, .inr ⟨by rw [HS.out.2, HD.out]; unfold thenF; rw [if_neg H2.out.1]; exact H2.out.1, bx, rfl, by rw [HS.out.2, HD.out]; unfold thenF; rw [if_neg H2.out.1]; exact H2.out.2⟩, HS.out.1.comp HG.out⟩
    · have i1 : ¬ (kk : Int) < (n : Int) := by omega
      obtain rfl : n = kk := by omega
      have HS1 : Hid (firstF ss = noF) := Lib.hid (by
        rw [HS.out.2, List.drop_eq_nil_of_le (by rw [H0.out.2.2.1]; exact Nat.le_refl _)]
        rfl)
      go_wp2
      go_ret
      exact ⟨_, rfl, by rw [HS1.out]; exact ErrAt.none, HS.out.1⟩
set_option maxRecDepth 100000 in
theorem allA_any (hE : Enters Tryd.prog gf) (hn : n ≤ 9223372036854775807) (hform : ∀ i, i < n → FormA (cs i)) (hrow : RowC (fun _ => False) w (.slice sa n cap) n 13 cs) (hss : ss.length = n)
    (hstep : ∀ i (h : i < ss.length) w', Fr Nil w w' → Calls Tryd.prog gf #[.agg (cs i).toArray, .pointer (some ⟨c1, 0, none⟩), .pointer (some ⟨c2, 0, none⟩)] w' (Told ss[i] w')) :
    Calls Tryd.prog 105 #[.slice sa n cap, .func (.func gf) #[] #[.pointer (some ⟨c1, 0, none⟩), .pointer (some ⟨c2, 0, none⟩)]] w fun r w' => ∃ v, r = .returned v ∧ FnAt w' v (firstF ss) ∧ Fr Nil w w' := by
  have H0 := Lib.hid (And.intro hE (And.intro hform (And.intro hrow (And.intro hss hstep))))
  clear hE hform hrow hss hstep
  go_enter Tryd.func105, Tryd.ntmps105
  go_wp2
  go_ret
  refine ⟨_, rfl, ⟨_, _, rfl, enters_of Tryd.func126 (by kernel_rfl) rfl, fun w' f => ?_⟩, by (repeat (first | (with_reducible exact Fr.refl _ _) | (with_reducible assumption) | (with_reducible exact Fr.of_nil (by assumption)) | (with_reducible refine Fr.drew ?_) | (with_reducible refine Fr.drewN ?_ _) | (with_reducible refine Fr.alloc ?_ _) | (with_reducible refine Fr.set ?_ _ _ (by first | (intros; omega) | (simp; done) | (simp; omega))) | (with_reducible refine Fr.via ?_ (by assumption)) | (with_reducible refine Fr.comp ?_ (by assumption))))⟩
  refine allA1_any (t1 := 38) (t2 := 153) H0.out.1 hn H0.out.2.1 (H0.out.2.2.1.fr (S := Nil) (Fr.comp (S := Nil) (by (repeat (first | (with_reducible exact Fr.refl _ _) | (with_reducible assumption) | (with_reducible exact Fr.of_nil (by assumption)) | (with_reducible refine Fr.drew ?_) | (with_reducible refine Fr.drewN ?_ _) | (with_reducible refine Fr.alloc ?_ _) | (with_reducible refine Fr.set ?_ _ _ (by first | (intros; omega) | (simp; done) | (simp; omega))) | (with_reducible refine Fr.via ?_ (by assumption)) | (with_reducible refine Fr.comp ?_ (by assumption))))) f) (fun _ q => q.elim)) H0.out.2.2.2.1 (f.blk (by (unfold Blk; simp (disch := first | omega | (simp; done) | (simp; omega)) only [hp_drew, hp_drewN, hp_alloc, hp_other, hp_same, hp_new, upd_cells, Option.map_some])) (fun q => q)) (f.blk (by (unfold Blk; simp (disch := first | omega | (simp; done) | (simp; omega)) only [hp_drew, hp_drewN, hp_alloc, hp_other, hp_same, hp_new, upd_cells, Option.map_some])) (fun q => q)) (fun i h w2 g => H0.out.2.2.2.2 i h w2 ((Fr.comp (S := Nil) (by (repeat (first | (with_reducible exact Fr.refl _ _) | (with_reducible assumption) | (with_reducible exact Fr.of_nil (by assumption)) | (with_reducible refine Fr.drew ?_) | (with_reducible refine Fr.drewN ?_ _) | (with_reducible refine Fr.alloc ?_ _) | (with_reducible refine Fr.set ?_ _ _ (by first | (intros; omega) | (simp; done) | (simp; omega))) | (with_reducible refine Fr.via ?_ (by assumption)) | (with_reducible refine Fr.comp ?_ (by assumption))))) f).comp g))

end
end Go.Proofs.YtpjlibbdngnnnaaDoor
