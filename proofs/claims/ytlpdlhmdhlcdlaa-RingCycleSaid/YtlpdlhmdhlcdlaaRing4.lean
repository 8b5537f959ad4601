/-
  Contracts of package ring: Shade. Conditions: cells lie within the words.
-/
import Derived.Test.YtlpdlhmdhlcdlaaRing3
namespace Go.Proofs.Ytlpdlhmdhlcdlaa
set_option linter.unusedSimpArgs false
set_option linter.unusedVariables false
open Go.RowKit
section
variable (rg ba bw n : Nat) (u : Nat) (w : World) (W F1 F2 G B : List Nat) (c : Nat)
theorem rshade_none (x : Int) (h : RingIs w rg ba bw n ⟨W, [], G, B⟩ u) :
    Calls Try.prog 14 #[.pointer (some ⟨rg, 0, none⟩), .int .i64 x] w fun e w' => e = .returned (.int .i64 20) ∧ Fr Nil w w' := by
  obtain ⟨l, f, b, h, hO⟩ := h
  obtain ⟨q1, q2, q3⟩ := h.ne
  have hl := h.hl
  have hn := hO.len
  have hnum := hO.num
  unfold Seg4.num at hnum
  have hn5 : n ≤ 100000 := by omega
  obtain ⟨N0, hN0⟩ : ∃ N, W.length = N := ⟨_, rfl⟩
  obtain ⟨N2, hN2⟩ : ∃ N, G.length = N := ⟨_, rfl⟩
  obtain ⟨N3, hN3⟩ : ∃ N, B.length = N := ⟨_, rfl⟩
  have hE0 : (W : List Nat).length = N0 := by first | rfl | omega | (simp only [List.length_cons, List.length_append, List.length_nil]; done) | (simp only [List.length_cons, List.length_append, List.length_nil]; omega)
  have hE1 : ([] : List Nat).length = 0 := by first | rfl | omega | (simp only [List.length_cons, List.length_append, List.length_nil]; done) | (simp only [List.length_cons, List.length_append, List.length_nil]; omega)
  have hE2 : (G : List Nat).length = N2 := by first | rfl | omega | (simp only [List.length_cons, List.length_append, List.length_nil]; done) | (simp only [List.length_cons, List.length_append, List.length_nil]; omega)
  have hE3 : (B : List Nat).length = N3 := by first | rfl | omega | (simp only [List.length_cons, List.length_append, List.length_nil]; done) | (simp only [List.length_cons, List.length_append, List.length_nil]; omega)
  simp only [hE0, hE1, hE2, hE3] at h hnum
  obtain ⟨c0, c1, c2, c3, c4, c5, c6, cz, clt⟩ := h.facts
  clear h hO
  go_enter Try.func14, Try.ntmps14
  go_wp2
  go_ret
  exact ⟨rfl, by (repeat (first | (with_reducible exact Fr.refl _ _) | (with_reducible assumption) | (with_reducible exact Fr.of_nil (by assumption)) | (with_reducible refine Fr.drew ?_) | (with_reducible refine Fr.drewN ?_ _) | (with_reducible refine Fr.alloc ?_ _) | (with_reducible refine Fr.set ?_ _ _ (by first | (intros; omega) | (simp; done) | (simp; omega))) | (with_reducible refine Fr.via ?_ (by assumption)) | (with_reducible refine Fr.comp ?_ (by assumption))))⟩
set_option maxRecDepth 100000 in
set_option maxHeartbeats 4000000 in
theorem rshade_one (h : RingIs w rg ba bw n ⟨[], [c], [], []⟩ u) (hu : u ≤ 900000000000) :
    Calls Try.prog 14 #[.pointer (some ⟨rg, 0, none⟩), .int .i64 (c : Int)] w fun e w' => e = .returned (.int .i64 0) ∧ (∃ u', RingIs w' rg ba bw n ⟨[], [], [c], []⟩ u' ∧ u' ≤ u + 20) ∧ Fr (RS rg ba bw) w w' := by
  obtain ⟨l, f, b, h, hO⟩ := h
  obtain ⟨q1, q2, q3⟩ := h.ne
  have hl := h.hl
  have hn := hO.len
  have hnum := hO.num
  unfold Seg4.num at hnum
  have hn5 : n ≤ 100000 := by omega
  have hE0 : ([] : List Nat).length = 0 := by first | rfl | omega | (simp only [List.length_cons, List.length_append, List.length_nil]; done) | (simp only [List.length_cons, List.length_append, List.length_nil]; omega)
  have hE1 : ([c] : List Nat).length = 1 := by first | rfl | omega | (simp only [List.length_cons, List.length_append, List.length_nil]; done) | (simp only [List.length_cons, List.length_append, List.length_nil]; omega)
  have hE2 : ([] : List Nat).length = 0 := by first | rfl | omega | (simp only [List.length_cons, List.length_append, List.length_nil]; done) | (simp only [List.length_cons, List.length_append, List.length_nil]; omega)
  have hE3 : ([] : List Nat).length = 0 := by first | rfl | omega | (simp only [List.length_cons, List.length_append, List.length_nil]; done) | (simp only [List.length_cons, List.length_append, List.length_nil]; omega)
  simp only [hE0, hE1, hE2, hE3] at h hnum
  obtain ⟨c0, c1, c2, c3, c4, c5, c6, cz, clt⟩ := h.facts
  have hO' := hO.shade1
  have H := Lib.hid (And.intro h hO')
  clear h hO hO'
  go_enter Try.func14, Try.ntmps14
  go_wp2_with fail
  refine (rall_any rg ba bw l u f b 0 1 0 0 _ H.out.1 (by omega)).mono ?_
  rintro e w1 ⟨rfl, f1⟩
  go_wp2_with fail
  refine (rturn_12 rg ba bw l u f b 0 0 0 0 _ (H.out.1.fr f1 (fun q => q) (fun q => q) (fun q => q)) (by omega)).mono ?_
  rintro e w2 ⟨rfl, h2, f2⟩
  go_wp2
  go_ret
  exact ⟨rfl, ⟨_, RingIs.mk' (S := ⟨[], [], [c], []⟩) h2 (by first | rfl | omega | (simp only [List.length_cons, List.length_append, List.length_nil]; done) | (simp only [List.length_cons, List.length_append, List.length_nil]; omega)) (by first | rfl | omega | (simp only [List.length_cons, List.length_append, List.length_nil]; done) | (simp only [List.length_cons, List.length_append, List.length_nil]; omega)) (by first | rfl | omega | (simp only [List.length_cons, List.length_append, List.length_nil]; done) | (simp only [List.length_cons, List.length_append, List.length_nil]; omega)) (by first | rfl | omega | (simp only [List.length_cons, List.length_append, List.length_nil]; done) | (simp only [List.length_cons, List.length_append, List.length_nil]; omega)) H.out.2, by omega⟩, (f1.of_nil).comp (rg_rs f2)⟩
set_option maxRecDepth 100000 in
set_option maxHeartbeats 16000000 in
theorem rshade_many (h : RingIs w rg ba bw n ⟨W, F1 ++ c :: F2, G, B⟩ u) (hM : W ++ (F1 ++ (F2 ++ (G ++ B))) ≠ []) (hu : u ≤ 900000000000) :
    Calls Try.prog 14 #[.pointer (some ⟨rg, 0, none⟩), .int .i64 (c : Int)] w fun e w' => e = .returned (.int .i64 0) ∧ (∃ u', RingIs w' rg ba bw n ⟨W, F1 ++ F2, G ++ [c], B⟩ u' ∧ u' ≤ u + 20) ∧ Fr (RS rg ba bw) w w' := by
  obtain ⟨l, f, b, h, hO⟩ := h
  obtain ⟨q1, q2, q3⟩ := h.ne
  have hl := h.hl
  have hn := hO.len
  have hnum := hO.num
  unfold Seg4.num at hnum
  have hn5 : n ≤ 100000 := by omega
  obtain ⟨N0, hN0⟩ : ∃ N, W.length = N := ⟨_, rfl⟩
  obtain ⟨M1, hM1⟩ : ∃ N, F1.length = N := ⟨_, rfl⟩
  obtain ⟨M2, hM2⟩ : ∃ N, F2.length = N := ⟨_, rfl⟩
  obtain ⟨N2, hN2⟩ : ∃ N, G.length = N := ⟨_, rfl⟩
  obtain ⟨N3, hN3⟩ : ∃ N, B.length = N := ⟨_, rfl⟩
  have hE0 : (W : List Nat).length = N0 := by first | rfl | omega | (simp only [List.length_cons, List.length_append, List.length_nil]; done) | (simp only [List.length_cons, List.length_append, List.length_nil]; omega)
  have hE1 : (F1 ++ c :: F2 : List Nat).length = M1 + M2 + 1 := by first | rfl | omega | (simp only [List.length_cons, List.length_append, List.length_nil]; done) | (simp only [List.length_cons, List.length_append, List.length_nil]; omega)
  have hE2 : (G : List Nat).length = N2 := by first | rfl | omega | (simp only [List.length_cons, List.length_append, List.length_nil]; done) | (simp only [List.length_cons, List.length_append, List.length_nil]; omega)
  have hE3 : (B : List Nat).length = N3 := by first | rfl | omega | (simp only [List.length_cons, List.length_append, List.length_nil]; done) | (simp only [List.length_cons, List.length_append, List.length_nil]; omega)
  simp only [hE0, hE1, hE2, hE3] at h hnum
  have hpos : 1 ≤ N0 + M1 + M2 + N2 + N3 := by
    rcases Nat.eq_zero_or_pos (N0 + M1 + M2 + N2 + N3) with q | q
    · exact (hM (List.length_eq_zero_iff.1 (by simp only [List.length_append]; omega))).elim
    · exact q
  obtain ⟨p, q, p2, b', hp, hq, hc3, hp3, hq3, hb', hp2, hb3, hp23, hO'⟩ := hO.shade hM
  obtain ⟨c0, c1, c2, c3, c4, c5, c6, cz, clt⟩ := h.facts
  obtain ⟨m, hm⟩ : ∃ m, N0 + (M1 + M2 + 1 + N2 + N3) = m := ⟨_, rfl⟩
  have H := Lib.hid (And.intro h (And.intro hp (And.intro hq (And.intro hp2 hO'))))
  have wm : IntKind.i64.wrap ((m : Int) - (N3 : Int)) = (m : Int) - (N3 : Int) := by rw [IntKind.wrap_i64]; omega
  have m1 : (1 : Int) < (m : Int) := by omega
  have e1 : ¬ ((M1 + M2 + 1 : Nat) : Int) = 0 := by omega
  have e2 : (((M1 + M2 + 1 : Nat) : Int) == 0) = false := by simp; omega
  have e2' : ((M1 : Int) + (M2 : Int) + 1 == 0) = false := by simp; omega
  clear h hO hO' hp hq hp2 hM
  go_enter Try.func14, Try.ntmps14
  go_wp2_with fail
  refine (rall_any rg ba bw l u f b N0 (M1 + M2 + 1) N2 N3 _ H.out.1 (by omega)).mono ?_
  rw [hm]
  rintro e w1 ⟨rfl, f1⟩
  have H1 := Lib.hid (H.out.1.fr f1 (fun q => q) (fun q => q) (fun q => q))
  go_wp2_with fail
  refine (rcut_any rg ba bw l u f b N0 (M1 + M2 + 1) N2 N3 _ H1.out c p q (by omega) (by omega) (by omega) H.out.2.1 H.out.2.2.1 (by omega)).mono ?_
  rintro e w2 ⟨rfl, h2, f2⟩
  clear c0 c1 c2 c3 c4 c5 c6 cz clt
  obtain ⟨c0, c1, c2, c3, c4, c5, c6, cz, clt⟩ := h2.facts
  have H2 := Lib.hid (And.intro h2 f2)
  clear h2 f2
  by_cases hf : f = c
  · by_cases hb : b = c
    · have hb2 : q = b' := by rw [hb', if_pos hb]
      subst hb2
      have e3 : (f : Int) = (c : Int) := by omega
      have e4 : ((f : Int) == (c : Int)) = true := by simp; omega
      have e5 : (b : Int) = (c : Int) := by omega
      have e6 : ((b : Int) == (c : Int)) = true := by simp; omega
      clear hb'
      go_wp2_with fail
      obtain ⟨V, hV⟩ : ∃ V, ((w2).setCell ⟨rg, 1, none⟩ (.int .i64 (q : Int))).setCell ⟨rg, 2, none⟩ (.int .i64 (q : Int)) = V := ⟨_, rfl⟩
      rw [hV]
      have bV : Blk V rg #[.pointer (some ⟨ba, 0, none⟩), .int .i64 (q : Int), .int .i64 (q : Int), .int .i64 (N0 : Int), .int .i64 (((M1 + M2 + 1 : Nat) : Int) : Int), .int .i64 (N2 : Int), .int .i64 (N3 : Int)] 68 := by
        rw [← hV]
        (unfold Blk; simp (disch := first | omega | (simp; done) | (simp; omega)) only [hp_drew, hp_drewN, hp_alloc, hp_other, hp_same, hp_new, upd_cells, Option.map_some, (H2.out.1.blk).eq])
        simp
      have fV : Fr (fun x => x = rg) w2 V := by rw [← hV]; (repeat (first | (with_reducible exact Fr.refl _ _) | (with_reducible assumption) | (with_reducible exact Fr.of_nil (by assumption)) | (with_reducible refine Fr.drew ?_) | (with_reducible refine Fr.drewN ?_ _) | (with_reducible refine Fr.alloc ?_ _) | (with_reducible refine Fr.set ?_ _ _ (by first | (intros; omega) | (simp; done) | (simp; omega))) | (with_reducible refine Fr.via ?_ (by assumption)) | (with_reducible refine Fr.comp ?_ (by assumption))))
      clear hV
      have hRV : RingRec V rg ba bw (lkL l p q) (u + 4) q q N0 (M1 + M2 + 1) N2 N3 := ⟨bV, H2.out.1.ar.fr fV (fun q => q1 q.symm) (fun q => q2 q.symm), H2.out.1.hl, H2.out.1.hu⟩
      have HV := Lib.hid (And.intro hRV fV)
      clear hRV fV bV
      refine (rput_any rg ba bw (lkL l p q) (u + 4) q q N0 (M1 + M2 + 1) N2 N3 _ HV.out.1 c q p2 (by rw [lkL_len]; omega) (by rw [lkL_len]; omega) (by rw [lkL_len]; omega) H.out.2.2.2.1 (by omega)).mono ?_
      rintro e w3 ⟨rfl, h3, f3⟩
      clear c0 c1 c2 c3 c4 c5 c6 cz clt
      obtain ⟨c0, c1, c2, c3, c4, c5, c6, cz, clt⟩ := h3.facts
      have H3 := Lib.hid (And.intro h3 f3)
      clear h3 f3
      go_wp2_with fail
      apply wp_via (F := fun X => Fr Nil w3 X)
      · go_region_held3 (fun w' => w'.cell? ⟨rg, 6, none⟩ = some (.int .i64 (N3 : Int))) (first | go_keep | exact t6) (first
          | (go_at_call 32; refine (rall_any rg ba bw _ _ q q N0 (M1 + M2 + 1) N2 N3 _ (H3.out.1.fr (S := Nil) (by (repeat (first | (with_reducible exact Fr.refl _ _) | (with_reducible assumption) | (with_reducible exact Fr.of_nil (by assumption)) | (with_reducible refine Fr.drew ?_) | (with_reducible refine Fr.drewN ?_ _) | (with_reducible refine Fr.alloc ?_ _) | (with_reducible refine Fr.set ?_ _ _ (by first | (intros; omega) | (simp; done) | (simp; omega))) | (with_reducible refine Fr.via ?_ (by assumption)) | (with_reducible refine Fr.comp ?_ (by assumption))))) (fun q => q) (fun q => q) (fun q => q)) (by omega)).mono ?_; rw [hm]; rintro e wa ⟨rfl, fa⟩; have fa' := (show Fr Nil w3 wa from Fr.trans (by (repeat (first | (with_reducible exact Fr.refl _ _) | (with_reducible assumption) | (with_reducible exact Fr.of_nil (by assumption)) | (with_reducible refine Fr.drew ?_) | (with_reducible refine Fr.drewN ?_ _) | (with_reducible refine Fr.alloc ?_ _) | (with_reducible refine Fr.set ?_ _ _ (by first | (intros; omega) | (simp; done) | (simp; omega))) | (with_reducible refine Fr.via ?_ (by assumption)) | (with_reducible refine Fr.comp ?_ (by assumption))))) fa (fun _ _ q => q)); have t6 := fa'.cell c6 (fun q => q); have clta := fa'.lt clt))
        all_goals (refine Via.mk ?_; (repeat (first | (with_reducible exact Fr.refl _ _) | (with_reducible assumption) | (with_reducible exact Fr.of_nil (by assumption)) | (with_reducible refine Fr.drew ?_) | (with_reducible refine Fr.drewN ?_ _) | (with_reducible refine Fr.alloc ?_ _) | (with_reducible refine Fr.set ?_ _ _ (by first | (intros; omega) | (simp; done) | (simp; omega))) | (with_reducible refine Fr.via ?_ (by assumption)) | (with_reducible refine Fr.comp ?_ (by assumption)))))
      rintro X fX
      have hRX := H3.out.1.fr fX (fun q => q) (fun q => q) (fun q => q)
      clear c0 c1 c2 c3 c4 c5 c6 cz clt
      obtain ⟨c0, c1, c2, c3, c4, c5, c6, cz, clt⟩ := hRX.facts
      have HX := Lib.hid hRX
      clear hRX
      by_cases hE : W ++ (F1 ++ (F2 ++ G)) = []
      · have hEl : N0 + M1 + M2 + N2 = 0 := by have := congrArg List.length hE; simp only [List.length_append, List.length_nil] at this; omega
        have e7 : (m : Int) - (N3 : Int) = 1 := by omega
        have e8 : ((m : Int) - (N3 : Int) == 1) = true := by simp; omega
        have HO := H.out.2.2.2.2
        rw [if_pos hE] at HO
        go_wp2_with fail
        refine (rturn_12 rg ba bw _ _ c q N0 (M1 + M2) N2 N3 _ ⟨?hblk, HX.out.ar.fr (S := fun x => x = rg) (by (repeat (first | (with_reducible exact Fr.refl _ _) | (with_reducible assumption) | (with_reducible exact Fr.of_nil (by assumption)) | (with_reducible refine Fr.drew ?_) | (with_reducible refine Fr.drewN ?_ _) | (with_reducible refine Fr.alloc ?_ _) | (with_reducible refine Fr.set ?_ _ _ (by first | (intros; omega) | (simp; done) | (simp; omega))) | (with_reducible refine Fr.via ?_ (by assumption)) | (with_reducible refine Fr.comp ?_ (by assumption))))) (fun q => q1 q.symm) (fun q => q2 q.symm), HX.out.hl, HX.out.hu⟩ (by omega)).mono ?_
        case hblk =>
          (unfold Blk; simp (disch := first | omega | (simp; done) | (simp; omega)) only [hp_drew, hp_drewN, hp_alloc, hp_other, hp_same, hp_new, upd_cells, Option.map_some, (HX.out.blk).eq])
          simp
        rintro e w4 ⟨rfl, h4, f4⟩
        go_wp2
        go_ret
        exact ⟨rfl, ⟨_, RingIs.mk' (S := ⟨W, F1 ++ F2, G ++ [c], B⟩) h4 (by first | rfl | omega | (simp only [List.length_cons, List.length_append, List.length_nil]; done) | (simp only [List.length_cons, List.length_append, List.length_nil]; omega)) (by first | rfl | omega | (simp only [List.length_cons, List.length_append, List.length_nil]; done) | (simp only [List.length_cons, List.length_append, List.length_nil]; omega)) (by first | rfl | omega | (simp only [List.length_cons, List.length_append, List.length_nil]; done) | (simp only [List.length_cons, List.length_append, List.length_nil]; omega)) (by first | rfl | omega | (simp only [List.length_cons, List.length_append, List.length_nil]; done) | (simp only [List.length_cons, List.length_append, List.length_nil]; omega)) HO, by omega⟩, ((((f1.of_nil).comp (as_rs H2.out.2)).comp (rg_rs HV.out.2)).comp (as_rs H3.out.2)).comp ((fX.of_nil).comp ((show Fr (RS rg ba bw) X _ from rg_rs (by (repeat (first | (with_reducible exact Fr.refl _ _) | (with_reducible assumption) | (with_reducible exact Fr.of_nil (by assumption)) | (with_reducible refine Fr.drew ?_) | (with_reducible refine Fr.drewN ?_ _) | (with_reducible refine Fr.alloc ?_ _) | (with_reducible refine Fr.set ?_ _ _ (by first | (intros; omega) | (simp; done) | (simp; omega))) | (with_reducible refine Fr.via ?_ (by assumption)) | (with_reducible refine Fr.comp ?_ (by assumption)))))).comp (rg_rs f4)))⟩
      · have hEl : ¬ N0 + M1 + M2 + N2 = 0 := fun q => hE (List.length_eq_zero_iff.1 (by simp only [List.length_append]; omega))
        have e7 : ¬ (m : Int) - (N3 : Int) = 1 := by omega
        have e8 : ((m : Int) - (N3 : Int) == 1) = false := by simp; omega
        have HO := H.out.2.2.2.2
        rw [if_neg hE, if_pos hf] at HO
        go_wp2_with fail
        refine (rturn_12 rg ba bw _ _ q q N0 (M1 + M2) N2 N3 _ HX.out (by omega)).mono ?_
        rintro e w4 ⟨rfl, h4, f4⟩
        go_wp2
        go_ret
        exact ⟨rfl, ⟨_, RingIs.mk' (S := ⟨W, F1 ++ F2, G ++ [c], B⟩) h4 (by first | rfl | omega | (simp only [List.length_cons, List.length_append, List.length_nil]; done) | (simp only [List.length_cons, List.length_append, List.length_nil]; omega)) (by first | rfl | omega | (simp only [List.length_cons, List.length_append, List.length_nil]; done) | (simp only [List.length_cons, List.length_append, List.length_nil]; omega)) (by first | rfl | omega | (simp only [List.length_cons, List.length_append, List.length_nil]; done) | (simp only [List.length_cons, List.length_append, List.length_nil]; omega)) (by first | rfl | omega | (simp only [List.length_cons, List.length_append, List.length_nil]; done) | (simp only [List.length_cons, List.length_append, List.length_nil]; omega)) HO, by omega⟩, ((((f1.of_nil).comp (as_rs H2.out.2)).comp (rg_rs HV.out.2)).comp (as_rs H3.out.2)).comp ((fX.of_nil).comp ((rg_rs f4)))⟩
    · have hb2 : b = b' := by rw [hb', if_neg hb]
      subst hb2
      have e3 : (f : Int) = (c : Int) := by omega
      have e4 : ((f : Int) == (c : Int)) = true := by simp; omega
      have e5 : ¬ (b : Int) = (c : Int) := by omega
      have e6 : ((b : Int) == (c : Int)) = false := by simp; omega
      clear hb'
      go_wp2_with fail
      obtain ⟨V, hV⟩ : ∃ V, (w2).setCell ⟨rg, 1, none⟩ (.int .i64 (q : Int)) = V := ⟨_, rfl⟩
      rw [hV]
      have bV : Blk V rg #[.pointer (some ⟨ba, 0, none⟩), .int .i64 (q : Int), .int .i64 (b : Int), .int .i64 (N0 : Int), .int .i64 (((M1 + M2 + 1 : Nat) : Int) : Int), .int .i64 (N2 : Int), .int .i64 (N3 : Int)] 68 := by
        rw [← hV]
        (unfold Blk; simp (disch := first | omega | (simp; done) | (simp; omega)) only [hp_drew, hp_drewN, hp_alloc, hp_other, hp_same, hp_new, upd_cells, Option.map_some, (H2.out.1.blk).eq])
        simp
      have fV : Fr (fun x => x = rg) w2 V := by rw [← hV]; (repeat (first | (with_reducible exact Fr.refl _ _) | (with_reducible assumption) | (with_reducible exact Fr.of_nil (by assumption)) | (with_reducible refine Fr.drew ?_) | (with_reducible refine Fr.drewN ?_ _) | (with_reducible refine Fr.alloc ?_ _) | (with_reducible refine Fr.set ?_ _ _ (by first | (intros; omega) | (simp; done) | (simp; omega))) | (with_reducible refine Fr.via ?_ (by assumption)) | (with_reducible refine Fr.comp ?_ (by assumption))))
      clear hV
      have hRV : RingRec V rg ba bw (lkL l p q) (u + 4) q b N0 (M1 + M2 + 1) N2 N3 := ⟨bV, H2.out.1.ar.fr fV (fun q => q1 q.symm) (fun q => q2 q.symm), H2.out.1.hl, H2.out.1.hu⟩
      have HV := Lib.hid (And.intro hRV fV)
      clear hRV fV bV
      refine (rput_any rg ba bw (lkL l p q) (u + 4) q b N0 (M1 + M2 + 1) N2 N3 _ HV.out.1 c b p2 (by rw [lkL_len]; omega) (by rw [lkL_len]; omega) (by rw [lkL_len]; omega) H.out.2.2.2.1 (by omega)).mono ?_
      rintro e w3 ⟨rfl, h3, f3⟩
      clear c0 c1 c2 c3 c4 c5 c6 cz clt
      obtain ⟨c0, c1, c2, c3, c4, c5, c6, cz, clt⟩ := h3.facts
      have H3 := Lib.hid (And.intro h3 f3)
      clear h3 f3
      go_wp2_with fail
      apply wp_via (F := fun X => Fr Nil w3 X)
      · go_region_held3 (fun w' => w'.cell? ⟨rg, 6, none⟩ = some (.int .i64 (N3 : Int))) (first | go_keep | exact t6) (first
          | (go_at_call 32; refine (rall_any rg ba bw _ _ q b N0 (M1 + M2 + 1) N2 N3 _ (H3.out.1.fr (S := Nil) (by (repeat (first | (with_reducible exact Fr.refl _ _) | (with_reducible assumption) | (with_reducible exact Fr.of_nil (by assumption)) | (with_reducible refine Fr.drew ?_) | (with_reducible refine Fr.drewN ?_ _) | (with_reducible refine Fr.alloc ?_ _) | (with_reducible refine Fr.set ?_ _ _ (by first | (intros; omega) | (simp; done) | (simp; omega))) | (with_reducible refine Fr.via ?_ (by assumption)) | (with_reducible refine Fr.comp ?_ (by assumption))))) (fun q => q) (fun q => q) (fun q => q)) (by omega)).mono ?_; rw [hm]; rintro e wa ⟨rfl, fa⟩; have fa' := (show Fr Nil w3 wa from Fr.trans (by (repeat (first | (with_reducible exact Fr.refl _ _) | (with_reducible assumption) | (with_reducible exact Fr.of_nil (by assumption)) | (with_reducible refine Fr.drew ?_) | (with_reducible refine Fr.drewN ?_ _) | (with_reducible refine Fr.alloc ?_ _) | (with_reducible refine Fr.set ?_ _ _ (by first | (intros; omega) | (simp; done) | (simp; omega))) | (with_reducible refine Fr.via ?_ (by assumption)) | (with_reducible refine Fr.comp ?_ (by assumption))))) fa (fun _ _ q => q)); have t6 := fa'.cell c6 (fun q => q); have clta := fa'.lt clt))
        all_goals (refine Via.mk ?_; (repeat (first | (with_reducible exact Fr.refl _ _) | (with_reducible assumption) | (with_reducible exact Fr.of_nil (by assumption)) | (with_reducible refine Fr.drew ?_) | (with_reducible refine Fr.drewN ?_ _) | (with_reducible refine Fr.alloc ?_ _) | (with_reducible refine Fr.set ?_ _ _ (by first | (intros; omega) | (simp; done) | (simp; omega))) | (with_reducible refine Fr.via ?_ (by assumption)) | (with_reducible refine Fr.comp ?_ (by assumption)))))
      rintro X fX
      have hRX := H3.out.1.fr fX (fun q => q) (fun q => q) (fun q => q)
      clear c0 c1 c2 c3 c4 c5 c6 cz clt
      obtain ⟨c0, c1, c2, c3, c4, c5, c6, cz, clt⟩ := hRX.facts
      have HX := Lib.hid hRX
      clear hRX
      by_cases hE : W ++ (F1 ++ (F2 ++ G)) = []
      · have hEl : N0 + M1 + M2 + N2 = 0 := by have := congrArg List.length hE; simp only [List.length_append, List.length_nil] at this; omega
        have e7 : (m : Int) - (N3 : Int) = 1 := by omega
        have e8 : ((m : Int) - (N3 : Int) == 1) = true := by simp; omega
        have HO := H.out.2.2.2.2
        rw [if_pos hE] at HO
        go_wp2_with fail
        refine (rturn_12 rg ba bw _ _ c b N0 (M1 + M2) N2 N3 _ ⟨?hblk, HX.out.ar.fr (S := fun x => x = rg) (by (repeat (first | (with_reducible exact Fr.refl _ _) | (with_reducible assumption) | (with_reducible exact Fr.of_nil (by assumption)) | (with_reducible refine Fr.drew ?_) | (with_reducible refine Fr.drewN ?_ _) | (with_reducible refine Fr.alloc ?_ _) | (with_reducible refine Fr.set ?_ _ _ (by first | (intros; omega) | (simp; done) | (simp; omega))) | (with_reducible refine Fr.via ?_ (by assumption)) | (with_reducible refine Fr.comp ?_ (by assumption))))) (fun q => q1 q.symm) (fun q => q2 q.symm), HX.out.hl, HX.out.hu⟩ (by omega)).mono ?_
        case hblk =>
          (unfold Blk; simp (disch := first | omega | (simp; done) | (simp; omega)) only [hp_drew, hp_drewN, hp_alloc, hp_other, hp_same, hp_new, upd_cells, Option.map_some, (HX.out.blk).eq])
          simp
        rintro e w4 ⟨rfl, h4, f4⟩
        go_wp2
        go_ret
        exact ⟨rfl, ⟨_, RingIs.mk' (S := ⟨W, F1 ++ F2, G ++ [c], B⟩) h4 (by first | rfl | omega | (simp only [List.length_cons, List.length_append, List.length_nil]; done) | (simp only [List.length_cons, List.length_append, List.length_nil]; omega)) (by first | rfl | omega | (simp only [List.length_cons, List.length_append, List.length_nil]; done) | (simp only [List.length_cons, List.length_append, List.length_nil]; omega)) (by first | rfl | omega | (simp only [List.length_cons, List.length_append, List.length_nil]; done) | (simp only [List.length_cons, List.length_append, List.length_nil]; omega)) (by first | rfl | omega | (simp only [List.length_cons, List.length_append, List.length_nil]; done) | (simp only [List.length_cons, List.length_append, List.length_nil]; omega)) HO, by omega⟩, ((((f1.of_nil).comp (as_rs H2.out.2)).comp (rg_rs HV.out.2)).comp (as_rs H3.out.2)).comp ((fX.of_nil).comp ((show Fr (RS rg ba bw) X _ from rg_rs (by (repeat (first | (with_reducible exact Fr.refl _ _) | (with_reducible assumption) | (with_reducible exact Fr.of_nil (by assumption)) | (with_reducible refine Fr.drew ?_) | (with_reducible refine Fr.drewN ?_ _) | (with_reducible refine Fr.alloc ?_ _) | (with_reducible refine Fr.set ?_ _ _ (by first | (intros; omega) | (simp; done) | (simp; omega))) | (with_reducible refine Fr.via ?_ (by assumption)) | (with_reducible refine Fr.comp ?_ (by assumption)))))).comp (rg_rs f4)))⟩
      · have hEl : ¬ N0 + M1 + M2 + N2 = 0 := fun q => hE (List.length_eq_zero_iff.1 (by simp only [List.length_append]; omega))
        have e7 : ¬ (m : Int) - (N3 : Int) = 1 := by omega
        have e8 : ((m : Int) - (N3 : Int) == 1) = false := by simp; omega
        have HO := H.out.2.2.2.2
        rw [if_neg hE, if_pos hf] at HO
        go_wp2_with fail
        refine (rturn_12 rg ba bw _ _ q b N0 (M1 + M2) N2 N3 _ HX.out (by omega)).mono ?_
        rintro e w4 ⟨rfl, h4, f4⟩
        go_wp2
        go_ret
        exact ⟨rfl, ⟨_, RingIs.mk' (S := ⟨W, F1 ++ F2, G ++ [c], B⟩) h4 (by first | rfl | omega | (simp only [List.length_cons, List.length_append, List.length_nil]; done) | (simp only [List.length_cons, List.length_append, List.length_nil]; omega)) (by first | rfl | omega | (simp only [List.length_cons, List.length_append, List.length_nil]; done) | (simp only [List.length_cons, List.length_append, List.length_nil]; omega)) (by first | rfl | omega | (simp only [List.length_cons, List.length_append, List.length_nil]; done) | (simp only [List.length_cons, List.length_append, List.length_nil]; omega)) (by first | rfl | omega | (simp only [List.length_cons, List.length_append, List.length_nil]; done) | (simp only [List.length_cons, List.length_append, List.length_nil]; omega)) HO, by omega⟩, ((((f1.of_nil).comp (as_rs H2.out.2)).comp (rg_rs HV.out.2)).comp (as_rs H3.out.2)).comp ((fX.of_nil).comp ((rg_rs f4)))⟩
  · by_cases hb : b = c
    · have hb2 : q = b' := by rw [hb', if_pos hb]
      subst hb2
      have e3 : ¬ (f : Int) = (c : Int) := by omega
      have e4 : ((f : Int) == (c : Int)) = false := by simp; omega
      have e5 : (b : Int) = (c : Int) := by omega
      have e6 : ((b : Int) == (c : Int)) = true := by simp; omega
      clear hb'
      go_wp2_with fail
      obtain ⟨V, hV⟩ : ∃ V, (w2).setCell ⟨rg, 2, none⟩ (.int .i64 (q : Int)) = V := ⟨_, rfl⟩
      rw [hV]
      have bV : Blk V rg #[.pointer (some ⟨ba, 0, none⟩), .int .i64 (f : Int), .int .i64 (q : Int), .int .i64 (N0 : Int), .int .i64 (((M1 + M2 + 1 : Nat) : Int) : Int), .int .i64 (N2 : Int), .int .i64 (N3 : Int)] 68 := by
        rw [← hV]
        (unfold Blk; simp (disch := first | omega | (simp; done) | (simp; omega)) only [hp_drew, hp_drewN, hp_alloc, hp_other, hp_same, hp_new, upd_cells, Option.map_some, (H2.out.1.blk).eq])
        simp
      have fV : Fr (fun x => x = rg) w2 V := by rw [← hV]; (repeat (first | (with_reducible exact Fr.refl _ _) | (with_reducible assumption) | (with_reducible exact Fr.of_nil (by assumption)) | (with_reducible refine Fr.drew ?_) | (with_reducible refine Fr.drewN ?_ _) | (with_reducible refine Fr.alloc ?_ _) | (with_reducible refine Fr.set ?_ _ _ (by first | (intros; omega) | (simp; done) | (simp; omega))) | (with_reducible refine Fr.via ?_ (by assumption)) | (with_reducible refine Fr.comp ?_ (by assumption))))
      clear hV
      have hRV : RingRec V rg ba bw (lkL l p q) (u + 4) f q N0 (M1 + M2 + 1) N2 N3 := ⟨bV, H2.out.1.ar.fr fV (fun q => q1 q.symm) (fun q => q2 q.symm), H2.out.1.hl, H2.out.1.hu⟩
      have HV := Lib.hid (And.intro hRV fV)
      clear hRV fV bV
      refine (rput_any rg ba bw (lkL l p q) (u + 4) f q N0 (M1 + M2 + 1) N2 N3 _ HV.out.1 c q p2 (by rw [lkL_len]; omega) (by rw [lkL_len]; omega) (by rw [lkL_len]; omega) H.out.2.2.2.1 (by omega)).mono ?_
      rintro e w3 ⟨rfl, h3, f3⟩
      clear c0 c1 c2 c3 c4 c5 c6 cz clt
      obtain ⟨c0, c1, c2, c3, c4, c5, c6, cz, clt⟩ := h3.facts
      have H3 := Lib.hid (And.intro h3 f3)
      clear h3 f3
      go_wp2_with fail
      apply wp_via (F := fun X => Fr Nil w3 X)
      · go_region_held3 (fun w' => w'.cell? ⟨rg, 6, none⟩ = some (.int .i64 (N3 : Int))) (first | go_keep | exact t6) (first
          | (go_at_call 32; refine (rall_any rg ba bw _ _ f q N0 (M1 + M2 + 1) N2 N3 _ (H3.out.1.fr (S := Nil) (by (repeat (first | (with_reducible exact Fr.refl _ _) | (with_reducible assumption) | (with_reducible exact Fr.of_nil (by assumption)) | (with_reducible refine Fr.drew ?_) | (with_reducible refine Fr.drewN ?_ _) | (with_reducible refine Fr.alloc ?_ _) | (with_reducible refine Fr.set ?_ _ _ (by first | (intros; omega) | (simp; done) | (simp; omega))) | (with_reducible refine Fr.via ?_ (by assumption)) | (with_reducible refine Fr.comp ?_ (by assumption))))) (fun q => q) (fun q => q) (fun q => q)) (by omega)).mono ?_; rw [hm]; rintro e wa ⟨rfl, fa⟩; have fa' := (show Fr Nil w3 wa from Fr.trans (by (repeat (first | (with_reducible exact Fr.refl _ _) | (with_reducible assumption) | (with_reducible exact Fr.of_nil (by assumption)) | (with_reducible refine Fr.drew ?_) | (with_reducible refine Fr.drewN ?_ _) | (with_reducible refine Fr.alloc ?_ _) | (with_reducible refine Fr.set ?_ _ _ (by first | (intros; omega) | (simp; done) | (simp; omega))) | (with_reducible refine Fr.via ?_ (by assumption)) | (with_reducible refine Fr.comp ?_ (by assumption))))) fa (fun _ _ q => q)); have t6 := fa'.cell c6 (fun q => q); have clta := fa'.lt clt))
        all_goals (refine Via.mk ?_; (repeat (first | (with_reducible exact Fr.refl _ _) | (with_reducible assumption) | (with_reducible exact Fr.of_nil (by assumption)) | (with_reducible refine Fr.drew ?_) | (with_reducible refine Fr.drewN ?_ _) | (with_reducible refine Fr.alloc ?_ _) | (with_reducible refine Fr.set ?_ _ _ (by first | (intros; omega) | (simp; done) | (simp; omega))) | (with_reducible refine Fr.via ?_ (by assumption)) | (with_reducible refine Fr.comp ?_ (by assumption)))))
      rintro X fX
      have hRX := H3.out.1.fr fX (fun q => q) (fun q => q) (fun q => q)
      clear c0 c1 c2 c3 c4 c5 c6 cz clt
      obtain ⟨c0, c1, c2, c3, c4, c5, c6, cz, clt⟩ := hRX.facts
      have HX := Lib.hid hRX
      clear hRX
      by_cases hE : W ++ (F1 ++ (F2 ++ G)) = []
      · have hEl : N0 + M1 + M2 + N2 = 0 := by have := congrArg List.length hE; simp only [List.length_append, List.length_nil] at this; omega
        have e7 : (m : Int) - (N3 : Int) = 1 := by omega
        have e8 : ((m : Int) - (N3 : Int) == 1) = true := by simp; omega
        have HO := H.out.2.2.2.2
        rw [if_pos hE] at HO
        go_wp2_with fail
        refine (rturn_12 rg ba bw _ _ c q N0 (M1 + M2) N2 N3 _ ⟨?hblk, HX.out.ar.fr (S := fun x => x = rg) (by (repeat (first | (with_reducible exact Fr.refl _ _) | (with_reducible assumption) | (with_reducible exact Fr.of_nil (by assumption)) | (with_reducible refine Fr.drew ?_) | (with_reducible refine Fr.drewN ?_ _) | (with_reducible refine Fr.alloc ?_ _) | (with_reducible refine Fr.set ?_ _ _ (by first | (intros; omega) | (simp; done) | (simp; omega))) | (with_reducible refine Fr.via ?_ (by assumption)) | (with_reducible refine Fr.comp ?_ (by assumption))))) (fun q => q1 q.symm) (fun q => q2 q.symm), HX.out.hl, HX.out.hu⟩ (by omega)).mono ?_
        case hblk =>
          (unfold Blk; simp (disch := first | omega | (simp; done) | (simp; omega)) only [hp_drew, hp_drewN, hp_alloc, hp_other, hp_same, hp_new, upd_cells, Option.map_some, (HX.out.blk).eq])
          simp
        rintro e w4 ⟨rfl, h4, f4⟩
        go_wp2
        go_ret
        exact ⟨rfl, ⟨_, RingIs.mk' (S := ⟨W, F1 ++ F2, G ++ [c], B⟩) h4 (by first | rfl | omega | (simp only [List.length_cons, List.length_append, List.length_nil]; done) | (simp only [List.length_cons, List.length_append, List.length_nil]; omega)) (by first | rfl | omega | (simp only [List.length_cons, List.length_append, List.length_nil]; done) | (simp only [List.length_cons, List.length_append, List.length_nil]; omega)) (by first | rfl | omega | (simp only [List.length_cons, List.length_append, List.length_nil]; done) | (simp only [List.length_cons, List.length_append, List.length_nil]; omega)) (by first | rfl | omega | (simp only [List.length_cons, List.length_append, List.length_nil]; done) | (simp only [List.length_cons, List.length_append, List.length_nil]; omega)) HO, by omega⟩, ((((f1.of_nil).comp (as_rs H2.out.2)).comp (rg_rs HV.out.2)).comp (as_rs H3.out.2)).comp ((fX.of_nil).comp ((show Fr (RS rg ba bw) X _ from rg_rs (by (repeat (first | (with_reducible exact Fr.refl _ _) | (with_reducible assumption) | (with_reducible exact Fr.of_nil (by assumption)) | (with_reducible refine Fr.drew ?_) | (with_reducible refine Fr.drewN ?_ _) | (with_reducible refine Fr.alloc ?_ _) | (with_reducible refine Fr.set ?_ _ _ (by first | (intros; omega) | (simp; done) | (simp; omega))) | (with_reducible refine Fr.via ?_ (by assumption)) | (with_reducible refine Fr.comp ?_ (by assumption)))))).comp (rg_rs f4)))⟩
      · have hEl : ¬ N0 + M1 + M2 + N2 = 0 := fun q => hE (List.length_eq_zero_iff.1 (by simp only [List.length_append]; omega))
        have e7 : ¬ (m : Int) - (N3 : Int) = 1 := by omega
        have e8 : ((m : Int) - (N3 : Int) == 1) = false := by simp; omega
        have HO := H.out.2.2.2.2
        rw [if_neg hE, if_neg hf] at HO
        go_wp2_with fail
        refine (rturn_12 rg ba bw _ _ f q N0 (M1 + M2) N2 N3 _ HX.out (by omega)).mono ?_
        rintro e w4 ⟨rfl, h4, f4⟩
        go_wp2
        go_ret
        exact ⟨rfl, ⟨_, RingIs.mk' (S := ⟨W, F1 ++ F2, G ++ [c], B⟩) h4 (by first | rfl | omega | (simp only [List.length_cons, List.length_append, List.length_nil]; done) | (simp only [List.length_cons, List.length_append, List.length_nil]; omega)) (by first | rfl | omega | (simp only [List.length_cons, List.length_append, List.length_nil]; done) | (simp only [List.length_cons, List.length_append, List.length_nil]; omega)) (by first | rfl | omega | (simp only [List.length_cons, List.length_append, List.length_nil]; done) | (simp only [List.length_cons, List.length_append, List.length_nil]; omega)) (by first | rfl | omega | (simp only [List.length_cons, List.length_append, List.length_nil]; done) | (simp only [List.length_cons, List.length_append, List.length_nil]; omega)) HO, by omega⟩, ((((f1.of_nil).comp (as_rs H2.out.2)).comp (rg_rs HV.out.2)).comp (as_rs H3.out.2)).comp ((fX.of_nil).comp ((rg_rs f4)))⟩
    · have hb2 : b = b' := by rw [hb', if_neg hb]
      subst hb2
      have e3 : ¬ (f : Int) = (c : Int) := by omega
      have e4 : ((f : Int) == (c : Int)) = false := by simp; omega
      have e5 : ¬ (b : Int) = (c : Int) := by omega
      have e6 : ((b : Int) == (c : Int)) = false := by simp; omega
      clear hb'
      go_wp2_with fail
      have HV := Lib.hid (And.intro H2.out.1 (Fr.refl (fun x => x = rg) w2))
      refine (rput_any rg ba bw (lkL l p q) (u + 4) f b N0 (M1 + M2 + 1) N2 N3 _ HV.out.1 c b p2 (by rw [lkL_len]; omega) (by rw [lkL_len]; omega) (by rw [lkL_len]; omega) H.out.2.2.2.1 (by omega)).mono ?_
      rintro e w3 ⟨rfl, h3, f3⟩
      clear c0 c1 c2 c3 c4 c5 c6 cz clt
      obtain ⟨c0, c1, c2, c3, c4, c5, c6, cz, clt⟩ := h3.facts
      have H3 := Lib.hid (And.intro h3 f3)
      clear h3 f3
      go_wp2_with fail
      apply wp_via (F := fun X => Fr Nil w3 X)
      · go_region_held3 (fun w' => w'.cell? ⟨rg, 6, none⟩ = some (.int .i64 (N3 : Int))) (first | go_keep | exact t6) (first
          | (go_at_call 32; refine (rall_any rg ba bw _ _ f b N0 (M1 + M2 + 1) N2 N3 _ (H3.out.1.fr (S := Nil) (by (repeat (first | (with_reducible exact Fr.refl _ _) | (with_reducible assumption) | (with_reducible exact Fr.of_nil (by assumption)) | (with_reducible refine Fr.drew ?_) | (with_reducible refine Fr.drewN ?_ _) | (with_reducible refine Fr.alloc ?_ _) | (with_reducible refine Fr.set ?_ _ _ (by first | (intros; omega) | (simp; done) | (simp; omega))) | (with_reducible refine Fr.via ?_ (by assumption)) | (with_reducible refine Fr.comp ?_ (by assumption))))) (fun q => q) (fun q => q) (fun q => q)) (by omega)).mono ?_; rw [hm]; rintro e wa ⟨rfl, fa⟩; have fa' := (show Fr Nil w3 wa from Fr.trans (by (repeat (first | (with_reducible exact Fr.refl _ _) | (with_reducible assumption) | (with_reducible exact Fr.of_nil (by assumption)) | (with_reducible refine Fr.drew ?_) | (with_reducible refine Fr.drewN ?_ _) | (with_reducible refine Fr.alloc ?_ _) | (with_reducible refine Fr.set ?_ _ _ (by first | (intros; omega) | (simp; done) | (simp; omega))) | (with_reducible refine Fr.via ?_ (by assumption)) | (with_reducible refine Fr.comp ?_ (by assumption))))) fa (fun _ _ q => q)); have t6 := fa'.cell c6 (fun q => q); have clta := fa'.lt clt))
        all_goals (refine Via.mk ?_; (repeat (first | (with_reducible exact Fr.refl _ _) | (with_reducible assumption) | (with_reducible exact Fr.of_nil (by assumption)) | (with_reducible refine Fr.drew ?_) | (with_reducible refine Fr.drewN ?_ _) | (with_reducible refine Fr.alloc ?_ _) | (with_reducible refine Fr.set ?_ _ _ (by first | (intros; omega) | (simp; done) | (simp; omega))) | (with_reducible refine Fr.via ?_ (by assumption)) | (with_reducible refine Fr.comp ?_ (by assumption)))))
      rintro X fX
      have hRX := H3.out.1.fr fX (fun q => q) (fun q => q) (fun q => q)
      clear c0 c1 c2 c3 c4 c5 c6 cz clt
      obtain ⟨c0, c1, c2, c3, c4, c5, c6, cz, clt⟩ := hRX.facts
      have HX := Lib.hid hRX
      clear hRX
      by_cases hE : W ++ (F1 ++ (F2 ++ G)) = []
      · have hEl : N0 + M1 + M2 + N2 = 0 := by have := congrArg List.length hE; simp only [List.length_append, List.length_nil] at this; omega
        have e7 : (m : Int) - (N3 : Int) = 1 := by omega
        have e8 : ((m : Int) - (N3 : Int) == 1) = true := by simp; omega
        have HO := H.out.2.2.2.2
        rw [if_pos hE] at HO
        go_wp2_with fail
        refine (rturn_12 rg ba bw _ _ c b N0 (M1 + M2) N2 N3 _ ⟨?hblk, HX.out.ar.fr (S := fun x => x = rg) (by (repeat (first | (with_reducible exact Fr.refl _ _) | (with_reducible assumption) | (with_reducible exact Fr.of_nil (by assumption)) | (with_reducible refine Fr.drew ?_) | (with_reducible refine Fr.drewN ?_ _) | (with_reducible refine Fr.alloc ?_ _) | (with_reducible refine Fr.set ?_ _ _ (by first | (intros; omega) | (simp; done) | (simp; omega))) | (with_reducible refine Fr.via ?_ (by assumption)) | (with_reducible refine Fr.comp ?_ (by assumption))))) (fun q => q1 q.symm) (fun q => q2 q.symm), HX.out.hl, HX.out.hu⟩ (by omega)).mono ?_
        case hblk =>
          (unfold Blk; simp (disch := first | omega | (simp; done) | (simp; omega)) only [hp_drew, hp_drewN, hp_alloc, hp_other, hp_same, hp_new, upd_cells, Option.map_some, (HX.out.blk).eq])
          simp
        rintro e w4 ⟨rfl, h4, f4⟩
        go_wp2
        go_ret
        exact ⟨rfl, ⟨_, RingIs.mk' (S := ⟨W, F1 ++ F2, G ++ [c], B⟩) h4 (by first | rfl | omega | (simp only [List.length_cons, List.length_append, List.length_nil]; done) | (simp only [List.length_cons, List.length_append, List.length_nil]; omega)) (by first | rfl | omega | (simp only [List.length_cons, List.length_append, List.length_nil]; done) | (simp only [List.length_cons, List.length_append, List.length_nil]; omega)) (by first | rfl | omega | (simp only [List.length_cons, List.length_append, List.length_nil]; done) | (simp only [List.length_cons, List.length_append, List.length_nil]; omega)) (by first | rfl | omega | (simp only [List.length_cons, List.length_append, List.length_nil]; done) | (simp only [List.length_cons, List.length_append, List.length_nil]; omega)) HO, by omega⟩, ((((f1.of_nil).comp (as_rs H2.out.2)).comp (rg_rs HV.out.2)).comp (as_rs H3.out.2)).comp ((fX.of_nil).comp ((show Fr (RS rg ba bw) X _ from rg_rs (by (repeat (first | (with_reducible exact Fr.refl _ _) | (with_reducible assumption) | (with_reducible exact Fr.of_nil (by assumption)) | (with_reducible refine Fr.drew ?_) | (with_reducible refine Fr.drewN ?_ _) | (with_reducible refine Fr.alloc ?_ _) | (with_reducible refine Fr.set ?_ _ _ (by first | (intros; omega) | (simp; done) | (simp; omega))) | (with_reducible refine Fr.via ?_ (by assumption)) | (with_reducible refine Fr.comp ?_ (by assumption)))))).comp (rg_rs f4)))⟩
      · have hEl : ¬ N0 + M1 + M2 + N2 = 0 := fun q => hE (List.length_eq_zero_iff.1 (by simp only [List.length_append]; omega))
        have e7 : ¬ (m : Int) - (N3 : Int) = 1 := by omega
        have e8 : ((m : Int) - (N3 : Int) == 1) = false := by simp; omega
        have HO := H.out.2.2.2.2
        rw [if_neg hE, if_neg hf] at HO
        go_wp2_with fail
        refine (rturn_12 rg ba bw _ _ f b N0 (M1 + M2) N2 N3 _ HX.out (by omega)).mono ?_
        rintro e w4 ⟨rfl, h4, f4⟩
        go_wp2
        go_ret
        exact ⟨rfl, ⟨_, RingIs.mk' (S := ⟨W, F1 ++ F2, G ++ [c], B⟩) h4 (by first | rfl | omega | (simp only [List.length_cons, List.length_append, List.length_nil]; done) | (simp only [List.length_cons, List.length_append, List.length_nil]; omega)) (by first | rfl | omega | (simp only [List.length_cons, List.length_append, List.length_nil]; done) | (simp only [List.length_cons, List.length_append, List.length_nil]; omega)) (by first | rfl | omega | (simp only [List.length_cons, List.length_append, List.length_nil]; done) | (simp only [List.length_cons, List.length_append, List.length_nil]; omega)) (by first | rfl | omega | (simp only [List.length_cons, List.length_append, List.length_nil]; done) | (simp only [List.length_cons, List.length_append, List.length_nil]; omega)) HO, by omega⟩, ((((f1.of_nil).comp (as_rs H2.out.2)).comp (rg_rs HV.out.2)).comp (as_rs H3.out.2)).comp ((fX.of_nil).comp ((rg_rs f4)))⟩
end
end Go.Proofs.Ytlpdlhmdhlcdlaa
