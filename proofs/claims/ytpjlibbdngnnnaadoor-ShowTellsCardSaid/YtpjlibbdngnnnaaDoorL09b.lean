/-
  The law ShowTells, walked (layer 9). Conditions: the tables that Go's library reads.
-/
import Derived.Test.YtpjlibbdngnnnaaDoorL09a
namespace Go.Proofs.YtpjlibbdngnnnaaDoor
set_option linter.unusedSimpArgs false
set_option linter.unusedVariables false
open Go.RowKit

set_option maxRecDepth 100000 in
set_option maxHeartbeats 4000000 in
theorem tells9_any (s : ByteArray) (w : World) (hT : Tabs w) :
    Calls Tryd.prog 8 #[.string s] w fun r w' => r = .returned (.bool true) ∧ Fr Nil w w' := by
  have HA := Lib.hid (awake9_any w hT)
  have HT := Lib.hid hT
  clear hT
  by_cases hs : s.size ≤ 5000
  · have q1 : ¬ (5000 : Int) < (s.size : Int) := by omega
    obtain ⟨⟨m, E1, E2⟩, hM⟩ : ∃ M, parseF s.data.toList = M := ⟨_, rfl⟩
    have hsv := src_svm s.data.toList (by rw [size_of]; exact hs)
    rw [hM] at hsv
    obtain ⟨nc, hnc⟩ : ∃ n, m.cons.length = n := ⟨_, rfl⟩
    obtain ⟨nb, hnb⟩ : ∃ n, m.binds.length = n := ⟨_, rfl⟩
    have HP := Lib.hid (fun w' => told9_any s w' (by omega) hM hnc hnb)
    have hsv' : SvM m := hsv
    have HS := Lib.hid (And.intro hsv' (And.intro hnc hnb))
    clear hsv hsv' hM hnc hnb
    go_enter Tryd.func8, Tryd.ntmps8
    go_wp2_with fail
    refine HA.out.mono ?_
    rintro e w1 ⟨rfl, f1⟩
    have HF1 := Lib.hid f1
    clear f1 HA
    go_wp2_with fail
    refine (HP.out w1).mono ?_
    rintro e w2 ⟨ca, cc, ba, bc, rfl, hm, f2⟩
    have H2 := Lib.hid (And.intro hm (HF1.out.comp f2))
    clear hm f2 HP
    obtain ⟨T, hTs⟩ : ∃ T, w2.heap.size = T := ⟨_, rfl⟩
    by_cases he : E1 = 0
    · subst he
      obtain ⟨W3, hW3⟩ : ∃ W3, w2.alloc (.cells #[.slice ca nc cc, .slice ba nb bc] 26) = W3 := ⟨_, rfl⟩
      have f3 : Fr Nil w2 W3 := by rw [← hW3]; (repeat (first | (with_reducible exact Fr.refl _ _) | (with_reducible assumption) | (with_reducible exact Fr.of_nil (by assumption)) | (with_reducible refine Fr.drew ?_) | (with_reducible refine Fr.drewN ?_ _) | (with_reducible refine Fr.alloc ?_ _) | (with_reducible refine Fr.set ?_ _ _ (by first | (intros; omega) | (simp; done) | (simp; omega))) | (with_reducible refine Fr.via ?_ (by assumption)) | (with_reducible refine Fr.comp ?_ (by assumption))))
      have b3 : Blk W3 T #[.slice ca nc cc, .slice ba nb bc] 26 := by rw [← hW3, ← hTs]; exact Blk.new _ _ _
      have hm3 := H2.out.1.fr f3 (fun _ q => q.elim)
      have HK2 : Hid (∀ w', Fr Nil W3 w' → w'.cell? ⟨T, 0, none⟩ = some (.slice ca nc cc) ∧ w'.cell? ⟨T, 1, none⟩ = some (.slice ba nb bc)) := Lib.hid (fun w' f => by
        have b := f.blk b3 (fun q => q)
        have z0 := b.cell 0
        have z1 := b.cell 1
        simp at z0 z1
        exact ⟨z0, z1⟩)
      have hnb9 : nb ≤ 9223372036854775807 := by
        obtain ⟨cs, h1, _⟩ := hm3.2.2.1
        have := h1.lenX
        rw [HS.out.2.2] at this
        exact this
      have H3 := Lib.hid (And.intro (H2.out.2.comp f3) (And.intro hm3 (HT.out.fr (H2.out.2.comp f3))))
      clear b3 hm3 f3
      go_wp2_with fail
      try rw [hTs]
      try rw [hW3]
      clear hTs hW3
      go_loopg [5] nb (fun g iv wr => ∃ j : Nat, g = nb - j ∧ j ≤ nb ∧ iv = .int .i64 (j : Int) ∧ Hid (Fr Nil W3 wr))
      case atStart => exact ⟨0, rfl, by omega, rfl, Lib.hid (Fr.refl _ _)⟩
      case round =>
        obtain ⟨j, rfl, hjn, rfl, HQ⟩ := hrel
        obtain ⟨Vr, hVr⟩ : ∃ V, V = wr := ⟨_, rfl⟩
        subst hVr
        have j0 : (0 : Int) ≤ (j : Int) := by omega
        by_cases hlt : j < nb
        · have hjl : j < m.binds.length := by rw [HS.out.2.2]; exact hlt
          have wk : IntKind.i64.wrap ((j : Int) + 1) = (j : Int) + 1 := by rw [IntKind.wrap_i64]; omega
          have j1 : (j : Int) < (nb : Int) := by omega
          have hbA := H3.out.2.1.2.2.1
          obtain ⟨b, off, pa, pn, pc, c, rfl, hlb, hfo, hpr, hEb, hpn, hc⟩ := hbA.at hjl
          obtain ⟨k, nm, fl, bi, a0, n0, c0, a1, n1, c1, a2, n2, c2, a3, n3, c3, rfl⟩ := hfo
          have hm9 : m.binds[j] ∈ m.binds := List.getElem_mem hjl
          have hsx := svB_mem HS.out.1.sv hm9
          have hzx : zE m.binds[j].body ≤ 50000000 := by have := zB_mem hm9; have := HS.out.1.z; omega
          have hps : ∀ w', Fr Nil Vr w' → Calls Tryd.prog 17 #[.agg #[.int .i64 (k : Int), .string nm, .bool fl, .int .u64 (bi : Int), .slice a0 n0 c0, .slice a1 n1 c1, .slice a2 n2 c2, .slice a3 n3 c3]] w' fun r w2 => r = .returned (.string ⟨(swE prF m.binds[j].body).toArray⟩) ∧ Fr Nil w' w2 := fun w' f => ps_any _ w' _ (hEb.frN (HQ.out.comp f)) hsx hzx (H3.out.2.2.fr (HQ.out.comp f))
          have hrs : ∀ w', Fr Nil Vr w' → Calls Tryd.prog 18 #[.agg #[.int .i64 (k : Int), .string nm, .bool fl, .int .u64 (bi : Int), .slice a0 n0 c0, .slice a1 n1 c1, .slice a2 n2 c2, .slice a3 n3 c3]] w' fun r w2 => r = .returned (.string ⟨(swE prF m.binds[j].body).toArray⟩) ∧ Fr Nil w' w2 := fun w' f => rs_any _ w' _ (hEb.frN (HQ.out.comp f)) hsx hzx
          obtain ⟨x, hx⟩ : ∃ x, swE prF m.binds[j].body = x := ⟨_, rfl⟩
          rw [hx] at hps hrs
          have HK3 : Hid (∀ w', Fr Nil Vr w' → w'.cell? ⟨T, 1, none⟩ = some (.slice (some ⟨b, off, none⟩) nb bc) ∧ w'.cell? ⟨b, off + j * 10 + 2, none⟩ = some (.int .i64 (k : Int)) ∧ w'.cell? ⟨b, off + j * 10 + 2 + 1, none⟩ = some (.string nm) ∧ w'.cell? ⟨b, off + j * 10 + 2 + 2, none⟩ = some (.bool fl) ∧ w'.cell? ⟨b, off + j * 10 + 2 + 3, none⟩ = some (.int .u64 (bi : Int)) ∧ w'.cell? ⟨b, off + j * 10 + 2 + 4, none⟩ = some (.slice a0 n0 c0) ∧ w'.cell? ⟨b, off + j * 10 + 2 + 5, none⟩ = some (.slice a1 n1 c1) ∧ w'.cell? ⟨b, off + j * 10 + 2 + 6, none⟩ = some (.slice a2 n2 c2) ∧ w'.cell? ⟨b, off + j * 10 + 2 + 7, none⟩ = some (.slice a3 n3 c3)) := Lib.hid (fun w' f => by
            obtain ⟨_, _, h⟩ := hc w' (HQ.out.comp f)
            exact ⟨(HK2.out w' (HQ.out.comp f)).2, h 0 _ rfl, h 1 _ rfl, h 2 _ rfl, h 3 _ rfl, h 4 _ rfl, h 5 _ rfl, h 6 _ rfl, h 7 _ rfl⟩)
          have hS0 := HK3.out Vr (Fr.refl _ _)
          have zl := World.block_lt_of_cell? _ _ hS0.1
          have bl := World.block_lt_of_cell? _ _ hS0.2.1
          have HX := Lib.hid (And.intro hps hrs)
          clear hps hrs hx hEb hc hsx hzx hm9 hpr hpn hbA hlb
          obtain ⟨s0, s1, s2, s3, s4, s5, s6, s7, s8⟩ := hS0
          go_upto_region 11 with fail
          have hS0 := HK3.out Vr (Fr.refl _ _)
          clear s0 s1 s2 s3 s4 s5 s6 s7 s8
          go_region_held3 (fun w' => w'.cell? ⟨T, 1, none⟩ = some (.slice (some ⟨b, off, none⟩) nb bc) ∧ w'.cell? ⟨b, off + j * 10 + 2, none⟩ = some (.int .i64 (k : Int)) ∧ w'.cell? ⟨b, off + j * 10 + 2 + 1, none⟩ = some (.string nm) ∧ w'.cell? ⟨b, off + j * 10 + 2 + 2, none⟩ = some (.bool fl) ∧ w'.cell? ⟨b, off + j * 10 + 2 + 3, none⟩ = some (.int .u64 (bi : Int)) ∧ w'.cell? ⟨b, off + j * 10 + 2 + 4, none⟩ = some (.slice a0 n0 c0) ∧ w'.cell? ⟨b, off + j * 10 + 2 + 5, none⟩ = some (.slice a1 n1 c1) ∧ w'.cell? ⟨b, off + j * 10 + 2 + 6, none⟩ = some (.slice a2 n2 c2) ∧ w'.cell? ⟨b, off + j * 10 + 2 + 7, none⟩ = some (.slice a3 n3 c3)) (with_reducible refine HK3.out _ ?_; (first | assumption | (repeat (first | (with_reducible exact Fr.refl _ _) | (with_reducible assumption) | (with_reducible exact Fr.of_nil (by assumption)) | (with_reducible refine Fr.drew ?_) | (with_reducible refine Fr.drewN ?_ _) | (with_reducible refine Fr.alloc ?_ _) | (with_reducible refine Fr.set ?_ _ _ (by first | (intros; omega) | (simp; done) | (simp; omega))) | (with_reducible refine Fr.via ?_ (by assumption)) | (with_reducible refine Fr.comp ?_ (by assumption)))))) (first
            | (go_at_call 17; refine (HX.out.1 _ (by first | assumption | (repeat (first | (with_reducible exact Fr.refl _ _) | (with_reducible assumption) | (with_reducible exact Fr.of_nil (by assumption)) | (with_reducible refine Fr.drew ?_) | (with_reducible refine Fr.drewN ?_ _) | (with_reducible refine Fr.alloc ?_ _) | (with_reducible refine Fr.set ?_ _ _ (by first | (intros; omega) | (simp; done) | (simp; omega))) | (with_reducible refine Fr.via ?_ (by assumption)) | (with_reducible refine Fr.comp ?_ (by assumption)))))).mono ?_; rintro r wa ⟨rfl, fa⟩; have ga : Fr Nil Vr wa := Fr.comp (S := Nil) (by first | assumption | (repeat (first | (with_reducible exact Fr.refl _ _) | (with_reducible assumption) | (with_reducible exact Fr.of_nil (by assumption)) | (with_reducible refine Fr.drew ?_) | (with_reducible refine Fr.drewN ?_ _) | (with_reducible refine Fr.alloc ?_ _) | (with_reducible refine Fr.set ?_ _ _ (by first | (intros; omega) | (simp; done) | (simp; omega))) | (with_reducible refine Fr.via ?_ (by assumption)) | (with_reducible refine Fr.comp ?_ (by assumption))))) fa; clear fa)
            | (go_at_call 18; refine (HX.out.2 _ (by first | assumption | (repeat (first | (with_reducible exact Fr.refl _ _) | (with_reducible assumption) | (with_reducible exact Fr.of_nil (by assumption)) | (with_reducible refine Fr.drew ?_) | (with_reducible refine Fr.drewN ?_ _) | (with_reducible refine Fr.alloc ?_ _) | (with_reducible refine Fr.set ?_ _ _ (by first | (intros; omega) | (simp; done) | (simp; omega))) | (with_reducible refine Fr.via ?_ (by assumption)) | (with_reducible refine Fr.comp ?_ (by assumption)))))).mono ?_; rintro r wb ⟨rfl, fb⟩; have gb : Fr Nil Vr wb := Fr.comp (S := Nil) (by first | assumption | (repeat (first | (with_reducible exact Fr.refl _ _) | (with_reducible assumption) | (with_reducible exact Fr.of_nil (by assumption)) | (with_reducible refine Fr.drew ?_) | (with_reducible refine Fr.drewN ?_ _) | (with_reducible refine Fr.alloc ?_ _) | (with_reducible refine Fr.set ?_ _ _ (by first | (intros; omega) | (simp; done) | (simp; omega))) | (with_reducible refine Fr.via ?_ (by assumption)) | (with_reducible refine Fr.comp ?_ (by assumption))))) fb; clear fb))
          all_goals
            go_wp2
            go_roundg (nb - (j + 1))
            case rel => exact ⟨j + 1, rfl, by omega, rfl, Lib.hid (HQ.out.comp (by first | assumption | (repeat (first | (with_reducible exact Fr.refl _ _) | (with_reducible assumption) | (with_reducible exact Fr.of_nil (by assumption)) | (with_reducible refine Fr.drew ?_) | (with_reducible refine Fr.drewN ?_ _) | (with_reducible refine Fr.alloc ?_ _) | (with_reducible refine Fr.set ?_ _ _ (by first | (intros; omega) | (simp; done) | (simp; omega))) | (with_reducible refine Fr.via ?_ (by assumption)) | (with_reducible refine Fr.comp ?_ (by assumption))))))⟩
            case measure => omega
        · have j1 : ¬ (j : Int) < (nb : Int) := by omega
          have hps : ∀ w', Fr Nil Vr w' → Calls Tryd.prog 19 #[.agg #[.slice ca nc cc, .slice ba nb bc]] w' fun r w2 => r = .returned (.string ⟨(swM prF m).toArray⟩) ∧ Fr Nil w' w2 := fun w' f => pmod_any (H3.out.2.1.fr (HQ.out.comp f) (fun _ q => q.elim)) HS.out.1 (H3.out.2.2.fr (HQ.out.comp f))
          have hrs : ∀ w', Fr Nil Vr w' → Calls Tryd.prog 20 #[.agg #[.slice ca nc cc, .slice ba nb bc]] w' fun r w2 => r = .returned (.string ⟨(swM prF m).toArray⟩) ∧ Fr Nil w' w2 := fun w' f => rmod_any (H3.out.2.1.fr (HQ.out.comp f) (fun _ q => q.elim)) HS.out.1
          obtain ⟨x, hx⟩ : ∃ x, swM prF m = x := ⟨_, rfl⟩
          rw [hx] at hps hrs
          have HK3 : Hid (∀ w', Fr Nil Vr w' → w'.cell? ⟨T, 0, none⟩ = some (.slice ca nc cc) ∧ w'.cell? ⟨T, 1, none⟩ = some (.slice ba nb bc)) := Lib.hid (fun w' f => HK2.out w' (HQ.out.comp f))
          have hS0 := HK3.out Vr (Fr.refl _ _)
          have zl := World.block_lt_of_cell? _ _ hS0.1
          have HX := Lib.hid (And.intro hps hrs)
          clear hps hrs hx
          obtain ⟨s0, s1⟩ := hS0
          go_upto_region 13 with fail
          have hS0 := HK3.out Vr (Fr.refl _ _)
          clear s0 s1
          go_region_held3 (fun w' => w'.cell? ⟨T, 0, none⟩ = some (.slice ca nc cc) ∧ w'.cell? ⟨T, 1, none⟩ = some (.slice ba nb bc)) (with_reducible refine HK3.out _ ?_; (first | assumption | (repeat (first | (with_reducible exact Fr.refl _ _) | (with_reducible assumption) | (with_reducible exact Fr.of_nil (by assumption)) | (with_reducible refine Fr.drew ?_) | (with_reducible refine Fr.drewN ?_ _) | (with_reducible refine Fr.alloc ?_ _) | (with_reducible refine Fr.set ?_ _ _ (by first | (intros; omega) | (simp; done) | (simp; omega))) | (with_reducible refine Fr.via ?_ (by assumption)) | (with_reducible refine Fr.comp ?_ (by assumption)))))) (first
            | (go_at_call 19; refine (HX.out.1 _ (by first | assumption | (repeat (first | (with_reducible exact Fr.refl _ _) | (with_reducible assumption) | (with_reducible exact Fr.of_nil (by assumption)) | (with_reducible refine Fr.drew ?_) | (with_reducible refine Fr.drewN ?_ _) | (with_reducible refine Fr.alloc ?_ _) | (with_reducible refine Fr.set ?_ _ _ (by first | (intros; omega) | (simp; done) | (simp; omega))) | (with_reducible refine Fr.via ?_ (by assumption)) | (with_reducible refine Fr.comp ?_ (by assumption)))))).mono ?_; rintro r wa ⟨rfl, fa⟩; have ga : Fr Nil Vr wa := Fr.comp (S := Nil) (by first | assumption | (repeat (first | (with_reducible exact Fr.refl _ _) | (with_reducible assumption) | (with_reducible exact Fr.of_nil (by assumption)) | (with_reducible refine Fr.drew ?_) | (with_reducible refine Fr.drewN ?_ _) | (with_reducible refine Fr.alloc ?_ _) | (with_reducible refine Fr.set ?_ _ _ (by first | (intros; omega) | (simp; done) | (simp; omega))) | (with_reducible refine Fr.via ?_ (by assumption)) | (with_reducible refine Fr.comp ?_ (by assumption))))) fa; clear fa)
            | (go_at_call 20; refine (HX.out.2 _ (by first | assumption | (repeat (first | (with_reducible exact Fr.refl _ _) | (with_reducible assumption) | (with_reducible exact Fr.of_nil (by assumption)) | (with_reducible refine Fr.drew ?_) | (with_reducible refine Fr.drewN ?_ _) | (with_reducible refine Fr.alloc ?_ _) | (with_reducible refine Fr.set ?_ _ _ (by first | (intros; omega) | (simp; done) | (simp; omega))) | (with_reducible refine Fr.via ?_ (by assumption)) | (with_reducible refine Fr.comp ?_ (by assumption)))))).mono ?_; rintro r wb ⟨rfl, fb⟩; have gb : Fr Nil Vr wb := Fr.comp (S := Nil) (by first | assumption | (repeat (first | (with_reducible exact Fr.refl _ _) | (with_reducible assumption) | (with_reducible exact Fr.of_nil (by assumption)) | (with_reducible refine Fr.drew ?_) | (with_reducible refine Fr.drewN ?_ _) | (with_reducible refine Fr.alloc ?_ _) | (with_reducible refine Fr.set ?_ _ _ (by first | (intros; omega) | (simp; done) | (simp; omega))) | (with_reducible refine Fr.via ?_ (by assumption)) | (with_reducible refine Fr.comp ?_ (by assumption))))) fb; clear fb))
          all_goals
            go_wp2
            go_ret
            exact ⟨by simp, H3.out.1.comp (HQ.out.comp (by first | assumption | (repeat (first | (with_reducible exact Fr.refl _ _) | (with_reducible assumption) | (with_reducible exact Fr.of_nil (by assumption)) | (with_reducible refine Fr.drew ?_) | (with_reducible refine Fr.drewN ?_ _) | (with_reducible refine Fr.alloc ?_ _) | (with_reducible refine Fr.set ?_ _ _ (by first | (intros; omega) | (simp; done) | (simp; omega))) | (with_reducible refine Fr.via ?_ (by assumption)) | (with_reducible refine Fr.comp ?_ (by assumption))))))⟩
    · have d3 : (E1 == 0) = false := by simpa using he
      go_wp2
      go_ret
      exact ⟨rfl, H2.out.2.comp (by (repeat (first | (with_reducible exact Fr.refl _ _) | (with_reducible assumption) | (with_reducible exact Fr.of_nil (by assumption)) | (with_reducible refine Fr.drew ?_) | (with_reducible refine Fr.drewN ?_ _) | (with_reducible refine Fr.alloc ?_ _) | (with_reducible refine Fr.set ?_ _ _ (by first | (intros; omega) | (simp; done) | (simp; omega))) | (with_reducible refine Fr.via ?_ (by assumption)) | (with_reducible refine Fr.comp ?_ (by assumption)))))⟩
  · have q1 : (5000 : Int) < (s.size : Int) := by omega
    go_enter Tryd.func8, Tryd.ntmps8
    go_wp2_with fail
    refine HA.out.mono ?_
    rintro e w1 ⟨rfl, f1⟩
    have HF := Lib.hid f1
    clear f1
    go_wp2
    go_ret
    exact ⟨rfl, HF.out⟩
end Go.Proofs.YtpjlibbdngnnnaaDoor
