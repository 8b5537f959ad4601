/-
  Contracts of package ring: Alloc, Next, Done, Begin, End, Drop, Counts. Conditions: cells lie within the words.
-/
import Derived.Test.YtlpdlhmdhlcdlaaRing2
import Derived.BigRegion
namespace Go.Proofs.Ytlpdlhmdhlcdlaa
set_option linter.unusedSimpArgs false
set_option linter.unusedVariables false
open Go.RowKit

theorem RingIs.mk' {w : World} {rg ba bw n u f b N0 N1 N2 N3 : Nat} {l : List Int} {S : Seg4} (hr : RingRec w rg ba bw l u f b N0 N1 N2 N3) (e0 : S.W.length = N0) (e1 : S.F.length = N1) (e2 : S.G.length = N2) (e3 : S.B.length = N3) (hO : RingOf l n f b S) : RingIs w rg ba bw n S u :=
  ⟨l, f, b, by rw [e0, e1, e2, e3]; exact hr, hO⟩
theorem RingIs.fr {S : Nat → Prop} {w w' : World} {rg ba bw n u : Nat} {R : Seg4} (h : RingIs w rg ba bw n R u) (g : Fr S w w') (h1 : ¬ S rg) (h2 : ¬ S ba) (h3 : ¬ S bw) : RingIs w' rg ba bw n R u := by
  obtain ⟨l, f, b, h, hO⟩ := h
  exact ⟨l, f, b, h.fr g h1 h2 h3, hO⟩
theorem wrap_nat (k : Nat) (hk : k ≤ 1000000000) : wrap64 (k : Int) = (k : Int) := by unfold wrap64; omega
theorem rg_rs {rg ba bw : Nat} {w w' : World} (h : Fr (fun x => x = rg) w w') : Fr (RS rg ba bw) w w' := h.mono (fun _ _ q => .inl q)
theorem ba_rs {rg ba bw : Nat} {w w' : World} (h : Fr (fun x => x = ba) w w') : Fr (RS rg ba bw) w w' := h.mono (fun _ _ q => .inr (.inl q))
section
variable (rg ba bw n : Nat) (u : Nat) (w : World) (W F G B : List Nat) (c : Nat)
theorem ralloc_none (h : RingIs w rg ba bw n ⟨[], F, G, B⟩ u) :
    Calls Try.prog 11 #[.pointer (some ⟨rg, 0, none⟩)] w fun e w' => e = .returned (.tuple #[.int .i64 0, .int .i64 2]) ∧ Fr Nil w w' := by
  obtain ⟨l, f, b, h, hO⟩ := h
  obtain ⟨q1, q2, q3⟩ := h.ne
  have hl := h.hl
  have hn := hO.len
  have hnum := hO.num
  unfold Seg4.num at hnum
  have hn5 : n ≤ 100000 := by omega
  obtain ⟨N1, hN1⟩ : ∃ N, F.length = N := ⟨_, rfl⟩
  obtain ⟨N2, hN2⟩ : ∃ N, G.length = N := ⟨_, rfl⟩
  obtain ⟨N3, hN3⟩ : ∃ N, B.length = N := ⟨_, rfl⟩
  have hE0 : ([] : List Nat).length = 0 := by first | rfl | omega | (simp only [List.length_cons, List.length_append, List.length_nil]; done) | (simp only [List.length_cons, List.length_append, List.length_nil]; omega)
  have hE1 : (F : List Nat).length = N1 := by first | rfl | omega | (simp only [List.length_cons, List.length_append, List.length_nil]; done) | (simp only [List.length_cons, List.length_append, List.length_nil]; omega)
  have hE2 : (G : List Nat).length = N2 := by first | rfl | omega | (simp only [List.length_cons, List.length_append, List.length_nil]; done) | (simp only [List.length_cons, List.length_append, List.length_nil]; omega)
  have hE3 : (B : List Nat).length = N3 := by first | rfl | omega | (simp only [List.length_cons, List.length_append, List.length_nil]; done) | (simp only [List.length_cons, List.length_append, List.length_nil]; omega)
  simp only [hE0, hE1, hE2, hE3] at h hnum
  obtain ⟨c0, c1, c2, c3, c4, c5, c6, cz, clt⟩ := h.facts
  clear h hO
  go_enter Try.func11, Try.ntmps11
  go_wp2
  go_ret2
  exact ⟨rfl, by (repeat (first | (with_reducible exact Fr.refl _ _) | (with_reducible assumption) | (with_reducible exact Fr.of_nil (by assumption)) | (with_reducible refine Fr.drew ?_) | (with_reducible refine Fr.drewN ?_ _) | (with_reducible refine Fr.alloc ?_ _) | (with_reducible refine Fr.set ?_ _ _ (by first | (intros; omega) | (simp; done) | (simp; omega))) | (with_reducible refine Fr.via ?_ (by assumption)) | (with_reducible refine Fr.comp ?_ (by assumption))))⟩
theorem rdrop_none (h : RingIs w rg ba bw n ⟨[], F, G, B⟩ u) :
    Calls Try.prog 41 #[.pointer (some ⟨rg, 0, none⟩)] w fun e w' => e = .returned (.tuple #[.int .i64 0, .int .i64 2]) ∧ Fr Nil w w' := by
  obtain ⟨l, f, b, h, hO⟩ := h
  obtain ⟨q1, q2, q3⟩ := h.ne
  have hl := h.hl
  have hn := hO.len
  have hnum := hO.num
  unfold Seg4.num at hnum
  have hn5 : n ≤ 100000 := by omega
  obtain ⟨N1, hN1⟩ : ∃ N, F.length = N := ⟨_, rfl⟩
  obtain ⟨N2, hN2⟩ : ∃ N, G.length = N := ⟨_, rfl⟩
  obtain ⟨N3, hN3⟩ : ∃ N, B.length = N := ⟨_, rfl⟩
  have hE0 : ([] : List Nat).length = 0 := by first | rfl | omega | (simp only [List.length_cons, List.length_append, List.length_nil]; done) | (simp only [List.length_cons, List.length_append, List.length_nil]; omega)
  have hE1 : (F : List Nat).length = N1 := by first | rfl | omega | (simp only [List.length_cons, List.length_append, List.length_nil]; done) | (simp only [List.length_cons, List.length_append, List.length_nil]; omega)
  have hE2 : (G : List Nat).length = N2 := by first | rfl | omega | (simp only [List.length_cons, List.length_append, List.length_nil]; done) | (simp only [List.length_cons, List.length_append, List.length_nil]; omega)
  have hE3 : (B : List Nat).length = N3 := by first | rfl | omega | (simp only [List.length_cons, List.length_append, List.length_nil]; done) | (simp only [List.length_cons, List.length_append, List.length_nil]; omega)
  simp only [hE0, hE1, hE2, hE3] at h hnum
  obtain ⟨c0, c1, c2, c3, c4, c5, c6, cz, clt⟩ := h.facts
  clear h hO
  go_enter Try.func41, Try.ntmps41
  go_wp2
  go_ret2
  exact ⟨rfl, by (repeat (first | (with_reducible exact Fr.refl _ _) | (with_reducible assumption) | (with_reducible exact Fr.of_nil (by assumption)) | (with_reducible refine Fr.drew ?_) | (with_reducible refine Fr.drewN ?_ _) | (with_reducible refine Fr.alloc ?_ _) | (with_reducible refine Fr.set ?_ _ _ (by first | (intros; omega) | (simp; done) | (simp; omega))) | (with_reducible refine Fr.via ?_ (by assumption)) | (with_reducible refine Fr.comp ?_ (by assumption))))⟩
set_option maxRecDepth 100000 in
set_option maxHeartbeats 4000000 in
theorem ralloc_some (h : RingIs w rg ba bw n ⟨c :: W, F, G, B⟩ u) (hu : u ≤ 900000000000) :
    Calls Try.prog 11 #[.pointer (some ⟨rg, 0, none⟩)] w fun e w' => e = .returned (.tuple #[.int .i64 (c : Int), .int .i64 0]) ∧ (∃ u', RingIs w' rg ba bw n ⟨W, F, G, B ++ [c]⟩ u' ∧ u' ≤ u + 20) ∧ Fr (RS rg ba bw) w w' := by
  obtain ⟨l, f, b, h, hO⟩ := h
  obtain ⟨q1, q2, q3⟩ := h.ne
  have hl := h.hl
  have hn := hO.len
  have hnum := hO.num
  unfold Seg4.num at hnum
  have hn5 : n ≤ 100000 := by omega
  obtain ⟨N0, hN0⟩ : ∃ N, W.length = N := ⟨_, rfl⟩
  obtain ⟨N1, hN1⟩ : ∃ N, F.length = N := ⟨_, rfl⟩
  obtain ⟨N2, hN2⟩ : ∃ N, G.length = N := ⟨_, rfl⟩
  obtain ⟨N3, hN3⟩ : ∃ N, B.length = N := ⟨_, rfl⟩
  have hE0 : (c :: W : List Nat).length = N0 + 1 := by first | rfl | omega | (simp only [List.length_cons, List.length_append, List.length_nil]; done) | (simp only [List.length_cons, List.length_append, List.length_nil]; omega)
  have hE1 : (F : List Nat).length = N1 := by first | rfl | omega | (simp only [List.length_cons, List.length_append, List.length_nil]; done) | (simp only [List.length_cons, List.length_append, List.length_nil]; omega)
  have hE2 : (G : List Nat).length = N2 := by first | rfl | omega | (simp only [List.length_cons, List.length_append, List.length_nil]; done) | (simp only [List.length_cons, List.length_append, List.length_nil]; omega)
  have hE3 : (B : List Nat).length = N3 := by first | rfl | omega | (simp only [List.length_cons, List.length_append, List.length_nil]; done) | (simp only [List.length_cons, List.length_append, List.length_nil]; omega)
  simp only [hE0, hE1, hE2, hE3] at h hnum
  obtain ⟨rfl, hc1, hc2⟩ := hO.first
  obtain ⟨f', hnx, hO'⟩ := hO.alloc
  obtain ⟨c0, c1, c2, c3, c4, c5, c6, cz, clt⟩ := h.facts
  have H := Lib.hid (And.intro h (And.intro hnx (And.intro hO' hn)))
  have e1 : ¬ ((N0 + 1 : Nat) : Int) = 0 := by omega
  have e2 : (((N0 + 1 : Nat) : Int) == 0) = false := by simp; omega
  clear h hO hO' hnx
  go_enter Try.func11, Try.ntmps11
  go_wp2_with fail
  refine (rnext_any rg ba bw l u f b (N0 + 1) N1 N2 N3 _ H.out.1 f (by omega) (by omega)).mono ?_
  rw [H.out.2.1]
  rintro e w1 ⟨rfl, h1, f1⟩
  clear c0 c1 c2 c3 c4 c5 c6 cz clt
  obtain ⟨c0, c1, c2, c3, c4, c5, c6, cz, clt⟩ := h1.facts
  have H1 := Lib.hid (And.intro h1 f1)
  clear h1 f1
  go_wp2_with fail
  refine (rturn_03 rg ba bw l (u + 1) f' b N0 N1 N2 N3 _ ⟨?hblk, H1.out.1.ar.fr (S := fun x => x = rg) (by (repeat (first | (with_reducible exact Fr.refl _ _) | (with_reducible assumption) | (with_reducible exact Fr.of_nil (by assumption)) | (with_reducible refine Fr.drew ?_) | (with_reducible refine Fr.drewN ?_ _) | (with_reducible refine Fr.alloc ?_ _) | (with_reducible refine Fr.set ?_ _ _ (by first | (intros; omega) | (simp; done) | (simp; omega))) | (with_reducible refine Fr.via ?_ (by assumption)) | (with_reducible refine Fr.comp ?_ (by assumption))))) (fun q => q1 q.symm) (fun q => q2 q.symm), H1.out.1.hl, H1.out.1.hu⟩ (by omega)).mono ?_
  case hblk =>
    (unfold Blk; simp (disch := first | omega | (simp; done) | (simp; omega)) only [hp_drew, hp_drewN, hp_alloc, hp_other, hp_same, hp_new, upd_cells, Option.map_some, (H1.out.1.blk).eq])
    simp
  rintro e w2 ⟨rfl, h2, f2⟩
  go_wp2
  go_ret2
  exact ⟨rfl, ⟨_, RingIs.mk' (S := ⟨W, F, G, B ++ [f]⟩) h2 (by first | rfl | omega | (simp only [List.length_cons, List.length_append, List.length_nil]; done) | (simp only [List.length_cons, List.length_append, List.length_nil]; omega)) (by first | rfl | omega | (simp only [List.length_cons, List.length_append, List.length_nil]; done) | (simp only [List.length_cons, List.length_append, List.length_nil]; omega)) (by first | rfl | omega | (simp only [List.length_cons, List.length_append, List.length_nil]; done) | (simp only [List.length_cons, List.length_append, List.length_nil]; omega)) (by first | rfl | omega | (simp only [List.length_cons, List.length_append, List.length_nil]; done) | (simp only [List.length_cons, List.length_append, List.length_nil]; omega)) H.out.2.2.1, by omega⟩, ((ba_rs H1.out.2).comp (show Fr (RS rg ba bw) w1 _ from rg_rs (by (repeat (first | (with_reducible exact Fr.refl _ _) | (with_reducible assumption) | (with_reducible exact Fr.of_nil (by assumption)) | (with_reducible refine Fr.drew ?_) | (with_reducible refine Fr.drewN ?_ _) | (with_reducible refine Fr.alloc ?_ _) | (with_reducible refine Fr.set ?_ _ _ (by first | (intros; omega) | (simp; done) | (simp; omega))) | (with_reducible refine Fr.via ?_ (by assumption)) | (with_reducible refine Fr.comp ?_ (by assumption))))))).comp (rg_rs f2)⟩
theorem rgrey_none (h : RingIs w rg ba bw n ⟨W, F, [], B⟩ u) :
    Calls Try.prog 23 #[.pointer (some ⟨rg, 0, none⟩)] w fun e w' => e = .returned (.tuple #[.int .i64 0, .bool false]) ∧ Fr Nil w w' := by
  obtain ⟨l, f, b, h, hO⟩ := h
  obtain ⟨q1, q2, q3⟩ := h.ne
  have hl := h.hl
  have hn := hO.len
  have hnum := hO.num
  unfold Seg4.num at hnum
  have hn5 : n ≤ 100000 := by omega
  obtain ⟨N0, hN0⟩ : ∃ N, W.length = N := ⟨_, rfl⟩
  obtain ⟨N1, hN1⟩ : ∃ N, F.length = N := ⟨_, rfl⟩
  obtain ⟨N3, hN3⟩ : ∃ N, B.length = N := ⟨_, rfl⟩
  have hE0 : (W : List Nat).length = N0 := by first | rfl | omega | (simp only [List.length_cons, List.length_append, List.length_nil]; done) | (simp only [List.length_cons, List.length_append, List.length_nil]; omega)
  have hE1 : (F : List Nat).length = N1 := by first | rfl | omega | (simp only [List.length_cons, List.length_append, List.length_nil]; done) | (simp only [List.length_cons, List.length_append, List.length_nil]; omega)
  have hE2 : ([] : List Nat).length = 0 := by first | rfl | omega | (simp only [List.length_cons, List.length_append, List.length_nil]; done) | (simp only [List.length_cons, List.length_append, List.length_nil]; omega)
  have hE3 : (B : List Nat).length = N3 := by first | rfl | omega | (simp only [List.length_cons, List.length_append, List.length_nil]; done) | (simp only [List.length_cons, List.length_append, List.length_nil]; omega)
  simp only [hE0, hE1, hE2, hE3] at h hnum
  obtain ⟨c0, c1, c2, c3, c4, c5, c6, cz, clt⟩ := h.facts
  clear h hO
  go_enter Try.func23, Try.ntmps23
  go_wp2
  go_ret2
  exact ⟨rfl, by (repeat (first | (with_reducible exact Fr.refl _ _) | (with_reducible assumption) | (with_reducible exact Fr.of_nil (by assumption)) | (with_reducible refine Fr.drew ?_) | (with_reducible refine Fr.drewN ?_ _) | (with_reducible refine Fr.alloc ?_ _) | (with_reducible refine Fr.set ?_ _ _ (by first | (intros; omega) | (simp; done) | (simp; omega))) | (with_reducible refine Fr.via ?_ (by assumption)) | (with_reducible refine Fr.comp ?_ (by assumption))))⟩
theorem rgrey_rec (l : List Int) (f b n0 n1 n2 n3 : Nat) (h : RingRec w rg ba bw l u f b n0 n1 (n2 + 1) n3) (hb : b + 3 ≤ l.length) (hc : nth l (b + 2) = (c : Int)) (hu : u < 1000000000000) :
    Calls Try.prog 23 #[.pointer (some ⟨rg, 0, none⟩)] w fun e w' => e = .returned (.tuple #[.int .i64 (c : Int), .bool true]) ∧ RingRec w' rg ba bw l (u + 1) f b n0 n1 (n2 + 1) n3 ∧ Fr (fun x => x = ba) w w' := by
  obtain ⟨c0, c1, c2, c3, c4, c5, c6, cz, clt⟩ := h.facts
  have H := Lib.hid (And.intro h hc)
  have e1 : ¬ ((n2 + 1 : Nat) : Int) = 0 := by omega
  have e2 : (((n2 + 1 : Nat) : Int) == 0) = false := by simp; omega
  clear h hc
  go_enter Try.func23, Try.ntmps23
  go_wp2_with fail
  refine (rprev_any rg ba bw l u f b n0 n1 (n2 + 1) n3 _ H.out.1 b hb hu).mono ?_
  rw [H.out.2]
  rintro e w1 ⟨rfl, h1, f1⟩
  go_wp2
  go_ret2
  exact ⟨rfl, h1, f1⟩
theorem rgrey_some (h : RingIs w rg ba bw n ⟨W, F, G ++ [c], B⟩ u) (hu : u ≤ 900000000000) :
    Calls Try.prog 23 #[.pointer (some ⟨rg, 0, none⟩)] w fun e w' => e = .returned (.tuple #[.int .i64 (c : Int), .bool true]) ∧ (∃ u', RingIs w' rg ba bw n ⟨W, F, G ++ [c], B⟩ u' ∧ u' ≤ u + 20) ∧ Fr (RS rg ba bw) w w' := by
  obtain ⟨l, f, b, h, hO⟩ := h
  obtain ⟨q1, q2, q3⟩ := h.ne
  have hl := h.hl
  have hn := hO.len
  have hnum := hO.num
  unfold Seg4.num at hnum
  have hn5 : n ≤ 100000 := by omega
  obtain ⟨N0, hN0⟩ : ∃ N, W.length = N := ⟨_, rfl⟩
  obtain ⟨N1, hN1⟩ : ∃ N, F.length = N := ⟨_, rfl⟩
  obtain ⟨N2, hN2⟩ : ∃ N, G.length = N := ⟨_, rfl⟩
  obtain ⟨N3, hN3⟩ : ∃ N, B.length = N := ⟨_, rfl⟩
  have hE0 : (W : List Nat).length = N0 := by first | rfl | omega | (simp only [List.length_cons, List.length_append, List.length_nil]; done) | (simp only [List.length_cons, List.length_append, List.length_nil]; omega)
  have hE1 : (F : List Nat).length = N1 := by first | rfl | omega | (simp only [List.length_cons, List.length_append, List.length_nil]; done) | (simp only [List.length_cons, List.length_append, List.length_nil]; omega)
  have hE2 : (G ++ [c] : List Nat).length = N2 + 1 := by first | rfl | omega | (simp only [List.length_cons, List.length_append, List.length_nil]; done) | (simp only [List.length_cons, List.length_append, List.length_nil]; omega)
  have hE3 : (B : List Nat).length = N3 := by first | rfl | omega | (simp only [List.length_cons, List.length_append, List.length_nil]; done) | (simp only [List.length_cons, List.length_append, List.length_nil]; omega)
  simp only [hE0, hE1, hE2, hE3] at h hnum
  obtain ⟨hc, hb⟩ := hO.next
  refine (rgrey_rec rg ba bw u w c l f b N0 N1 N2 N3 h (by omega) hc (by omega)).mono ?_
  rintro e w1 ⟨rfl, h1, f1⟩
  exact ⟨rfl, ⟨_, RingIs.mk' (S := ⟨W, F, G ++ [c], B⟩) h1 (by first | rfl | omega | (simp only [List.length_cons, List.length_append, List.length_nil]; done) | (simp only [List.length_cons, List.length_append, List.length_nil]; omega)) (by first | rfl | omega | (simp only [List.length_cons, List.length_append, List.length_nil]; done) | (simp only [List.length_cons, List.length_append, List.length_nil]; omega)) (by first | rfl | omega | (simp only [List.length_cons, List.length_append, List.length_nil]; done) | (simp only [List.length_cons, List.length_append, List.length_nil]; omega)) (by first | rfl | omega | (simp only [List.length_cons, List.length_append, List.length_nil]; done) | (simp only [List.length_cons, List.length_append, List.length_nil]; omega)) hO, by omega⟩, ba_rs f1⟩
theorem rdone_none (h : RingIs w rg ba bw n ⟨W, F, [], B⟩ u) :
    Calls Try.prog 15 #[.pointer (some ⟨rg, 0, none⟩)] w fun e w' => e = .returned (.int .i64 18) ∧ Fr Nil w w' := by
  have H := Lib.hid h
  clear h
  go_enter Try.func15, Try.ntmps15
  go_wp2_with fail
  refine (rgrey_none rg ba bw n u w W F B H.out).mono ?_
  rintro e w1 ⟨rfl, f1⟩
  go_wp2
  go_ret
  exact ⟨rfl, f1⟩
set_option maxRecDepth 100000 in
set_option maxHeartbeats 4000000 in
theorem rdone_some (h : RingIs w rg ba bw n ⟨W, F, G ++ [c], B⟩ u) (hu : u ≤ 900000000000) :
    Calls Try.prog 15 #[.pointer (some ⟨rg, 0, none⟩)] w fun e w' => e = .returned (.int .i64 0) ∧ (∃ u', RingIs w' rg ba bw n ⟨W, F, G, c :: B⟩ u' ∧ u' ≤ u + 20) ∧ Fr (RS rg ba bw) w w' := by
  obtain ⟨l, f, b, h, hO⟩ := h
  obtain ⟨q1, q2, q3⟩ := h.ne
  have hl := h.hl
  have hn := hO.len
  have hnum := hO.num
  unfold Seg4.num at hnum
  have hn5 : n ≤ 100000 := by omega
  obtain ⟨N0, hN0⟩ : ∃ N, W.length = N := ⟨_, rfl⟩
  obtain ⟨N1, hN1⟩ : ∃ N, F.length = N := ⟨_, rfl⟩
  obtain ⟨N2, hN2⟩ : ∃ N, G.length = N := ⟨_, rfl⟩
  obtain ⟨N3, hN3⟩ : ∃ N, B.length = N := ⟨_, rfl⟩
  have hE0 : (W : List Nat).length = N0 := by first | rfl | omega | (simp only [List.length_cons, List.length_append, List.length_nil]; done) | (simp only [List.length_cons, List.length_append, List.length_nil]; omega)
  have hE1 : (F : List Nat).length = N1 := by first | rfl | omega | (simp only [List.length_cons, List.length_append, List.length_nil]; done) | (simp only [List.length_cons, List.length_append, List.length_nil]; omega)
  have hE2 : (G ++ [c] : List Nat).length = N2 + 1 := by first | rfl | omega | (simp only [List.length_cons, List.length_append, List.length_nil]; done) | (simp only [List.length_cons, List.length_append, List.length_nil]; omega)
  have hE3 : (B : List Nat).length = N3 := by first | rfl | omega | (simp only [List.length_cons, List.length_append, List.length_nil]; done) | (simp only [List.length_cons, List.length_append, List.length_nil]; omega)
  simp only [hE0, hE1, hE2, hE3] at h hnum
  obtain ⟨hc, hb⟩ := hO.next
  have hO' := hO.done
  have H := Lib.hid (And.intro h (And.intro hc hO'))
  clear h hO hO' hc
  go_enter Try.func15, Try.ntmps15
  go_wp2_with fail
  refine (rgrey_rec rg ba bw u _ c l f b N0 N1 N2 N3 H.out.1 (by omega) H.out.2.1 (by omega)).mono ?_
  rintro e w1 ⟨rfl, h1, f1⟩
  obtain ⟨c0, c1, c2, c3, c4, c5, c6, cz, clt⟩ := h1.facts
  have H1 := Lib.hid (And.intro h1 f1)
  clear h1 f1
  go_wp2_with fail
  refine (rturn_23 rg ba bw l (u + 1) f c N0 N1 N2 N3 _ ⟨?hblk, H1.out.1.ar.fr (S := fun x => x = rg) (by (repeat (first | (with_reducible exact Fr.refl _ _) | (with_reducible assumption) | (with_reducible exact Fr.of_nil (by assumption)) | (with_reducible refine Fr.drew ?_) | (with_reducible refine Fr.drewN ?_ _) | (with_reducible refine Fr.alloc ?_ _) | (with_reducible refine Fr.set ?_ _ _ (by first | (intros; omega) | (simp; done) | (simp; omega))) | (with_reducible refine Fr.via ?_ (by assumption)) | (with_reducible refine Fr.comp ?_ (by assumption))))) (fun q => q1 q.symm) (fun q => q2 q.symm), H1.out.1.hl, H1.out.1.hu⟩ (by omega)).mono ?_
  case hblk =>
    (unfold Blk; simp (disch := first | omega | (simp; done) | (simp; omega)) only [hp_drew, hp_drewN, hp_alloc, hp_other, hp_same, hp_new, upd_cells, Option.map_some, (H1.out.1.blk).eq])
    simp
  rintro e w2 ⟨rfl, h2, f2⟩
  go_wp2
  go_ret
  exact ⟨rfl, ⟨_, RingIs.mk' (S := ⟨W, F, G, c :: B⟩) h2 (by first | rfl | omega | (simp only [List.length_cons, List.length_append, List.length_nil]; done) | (simp only [List.length_cons, List.length_append, List.length_nil]; omega)) (by first | rfl | omega | (simp only [List.length_cons, List.length_append, List.length_nil]; done) | (simp only [List.length_cons, List.length_append, List.length_nil]; omega)) (by first | rfl | omega | (simp only [List.length_cons, List.length_append, List.length_nil]; done) | (simp only [List.length_cons, List.length_append, List.length_nil]; omega)) (by first | rfl | omega | (simp only [List.length_cons, List.length_append, List.length_nil]; done) | (simp only [List.length_cons, List.length_append, List.length_nil]; omega)) H.out.2.2, by omega⟩, ((ba_rs H1.out.2).comp (show Fr (RS rg ba bw) w1 _ from rg_rs (by (repeat (first | (with_reducible exact Fr.refl _ _) | (with_reducible assumption) | (with_reducible exact Fr.of_nil (by assumption)) | (with_reducible refine Fr.drew ?_) | (with_reducible refine Fr.drewN ?_ _) | (with_reducible refine Fr.alloc ?_ _) | (with_reducible refine Fr.set ?_ _ _ (by first | (intros; omega) | (simp; done) | (simp; omega))) | (with_reducible refine Fr.via ?_ (by assumption)) | (with_reducible refine Fr.comp ?_ (by assumption))))))).comp (rg_rs f2)⟩
theorem rbegin_bad (h : RingIs w rg ba bw n ⟨W, F, G, B⟩ u) (hfg : F ≠ [] ∨ G ≠ []) :
    Calls Try.prog 13 #[.pointer (some ⟨rg, 0, none⟩)] w fun e w' => e = .returned (.int .i64 18) ∧ Fr Nil w w' := by
  obtain ⟨l, f, b, h, hO⟩ := h
  obtain ⟨q1, q2, q3⟩ := h.ne
  have hl := h.hl
  have hn := hO.len
  have hnum := hO.num
  unfold Seg4.num at hnum
  have hn5 : n ≤ 100000 := by omega
  obtain ⟨N0, hN0⟩ : ∃ N, W.length = N := ⟨_, rfl⟩
  obtain ⟨N1, hN1⟩ : ∃ N, F.length = N := ⟨_, rfl⟩
  obtain ⟨N2, hN2⟩ : ∃ N, G.length = N := ⟨_, rfl⟩
  obtain ⟨N3, hN3⟩ : ∃ N, B.length = N := ⟨_, rfl⟩
  have hE0 : (W : List Nat).length = N0 := by first | rfl | omega | (simp only [List.length_cons, List.length_append, List.length_nil]; done) | (simp only [List.length_cons, List.length_append, List.length_nil]; omega)
  have hE1 : (F : List Nat).length = N1 := by first | rfl | omega | (simp only [List.length_cons, List.length_append, List.length_nil]; done) | (simp only [List.length_cons, List.length_append, List.length_nil]; omega)
  have hE2 : (G : List Nat).length = N2 := by first | rfl | omega | (simp only [List.length_cons, List.length_append, List.length_nil]; done) | (simp only [List.length_cons, List.length_append, List.length_nil]; omega)
  have hE3 : (B : List Nat).length = N3 := by first | rfl | omega | (simp only [List.length_cons, List.length_append, List.length_nil]; done) | (simp only [List.length_cons, List.length_append, List.length_nil]; omega)
  simp only [hE0, hE1, hE2, hE3] at h hnum
  obtain ⟨c0, c1, c2, c3, c4, c5, c6, cz, clt⟩ := h.facts
  have w1 : IntKind.i64.wrap ((N1 : Int) + (N2 : Int)) = (N1 : Int) + (N2 : Int) := by rw [IntKind.wrap_i64]; omega
  have e1 : (0 : Int) < (N1 : Int) + (N2 : Int) := by
    rcases hfg with q | q
    · cases F with
      | nil => exact (q rfl).elim
      | cons x F => simp at hN1; omega
    · cases G with
      | nil => exact (q rfl).elim
      | cons x G => simp at hN2; omega
  clear h hO hfg
  go_enter Try.func13, Try.ntmps13
  go_wp2_with fail
  go_quiet (fail)
  go_wp2
  go_ret
  exact ⟨rfl, by (repeat (first | (with_reducible exact Fr.refl _ _) | (with_reducible assumption) | (with_reducible exact Fr.of_nil (by assumption)) | (with_reducible refine Fr.drew ?_) | (with_reducible refine Fr.drewN ?_ _) | (with_reducible refine Fr.alloc ?_ _) | (with_reducible refine Fr.set ?_ _ _ (by first | (intros; omega) | (simp; done) | (simp; omega))) | (with_reducible refine Fr.via ?_ (by assumption)) | (with_reducible refine Fr.comp ?_ (by assumption))))⟩
set_option maxRecDepth 100000 in
set_option maxHeartbeats 4000000 in
theorem rbegin_ok (h : RingIs w rg ba bw n ⟨W, [], [], B⟩ u) :
    Calls Try.prog 13 #[.pointer (some ⟨rg, 0, none⟩)] w fun e w' => e = .returned (.int .i64 0) ∧ RingIs w' rg ba bw n ⟨W, B, [], []⟩ u ∧ Fr (RS rg ba bw) w w' := by
  obtain ⟨l, f, b, h, hO⟩ := h
  obtain ⟨q1, q2, q3⟩ := h.ne
  have hl := h.hl
  have hn := hO.len
  have hnum := hO.num
  unfold Seg4.num at hnum
  have hn5 : n ≤ 100000 := by omega
  obtain ⟨N0, hN0⟩ : ∃ N, W.length = N := ⟨_, rfl⟩
  obtain ⟨N3, hN3⟩ : ∃ N, B.length = N := ⟨_, rfl⟩
  have hE0 : (W : List Nat).length = N0 := by first | rfl | omega | (simp only [List.length_cons, List.length_append, List.length_nil]; done) | (simp only [List.length_cons, List.length_append, List.length_nil]; omega)
  have hE1 : ([] : List Nat).length = 0 := by first | rfl | omega | (simp only [List.length_cons, List.length_append, List.length_nil]; done) | (simp only [List.length_cons, List.length_append, List.length_nil]; omega)
  have hE2 : ([] : List Nat).length = 0 := by first | rfl | omega | (simp only [List.length_cons, List.length_append, List.length_nil]; done) | (simp only [List.length_cons, List.length_append, List.length_nil]; omega)
  have hE3 : (B : List Nat).length = N3 := by first | rfl | omega | (simp only [List.length_cons, List.length_append, List.length_nil]; done) | (simp only [List.length_cons, List.length_append, List.length_nil]; omega)
  simp only [hE0, hE1, hE2, hE3] at h hnum
  have hO' := hO.begin
  obtain ⟨c0, c1, c2, c3, c4, c5, c6, cz, clt⟩ := h.facts
  have H := Lib.hid (And.intro h hO')
  clear h hO hO'
  go_enter Try.func13, Try.ntmps13
  go_wp2_with fail
  go_quiet (fail)
  go_wp2_with fail
  apply wp_via (F := fun V => RingRec V rg ba bw l u f b N0 N3 0 0 ∧ Fr (fun x => x = rg) w V)
  · go_region
    all_goals
      refine Via.mk ⟨⟨?_, H.out.1.ar.fr (S := fun x => x = rg) (by (repeat (first | (with_reducible exact Fr.refl _ _) | (with_reducible assumption) | (with_reducible exact Fr.of_nil (by assumption)) | (with_reducible refine Fr.drew ?_) | (with_reducible refine Fr.drewN ?_ _) | (with_reducible refine Fr.alloc ?_ _) | (with_reducible refine Fr.set ?_ _ _ (by first | (intros; omega) | (simp; done) | (simp; omega))) | (with_reducible refine Fr.via ?_ (by assumption)) | (with_reducible refine Fr.comp ?_ (by assumption))))) (fun q => q1 q.symm) (fun q => q2 q.symm), H.out.1.hl, H.out.1.hu⟩, by (repeat (first | (with_reducible exact Fr.refl _ _) | (with_reducible assumption) | (with_reducible exact Fr.of_nil (by assumption)) | (with_reducible refine Fr.drew ?_) | (with_reducible refine Fr.drewN ?_ _) | (with_reducible refine Fr.alloc ?_ _) | (with_reducible refine Fr.set ?_ _ _ (by first | (intros; omega) | (simp; done) | (simp; omega))) | (with_reducible refine Fr.via ?_ (by assumption)) | (with_reducible refine Fr.comp ?_ (by assumption))))⟩
      (unfold Blk; simp (disch := first | omega | (simp; done) | (simp; omega)) only [hp_drew, hp_drewN, hp_alloc, hp_other, hp_same, hp_new, upd_cells, Option.map_some, (H.out.1.blk).eq])
      simp
  rintro V ⟨hV, fV⟩
  clear c0 c1 c2 c3 c4 c5 c6 cz clt
  obtain ⟨c0, c1, c2, c3, c4, c5, c6, cz, clt⟩ := hV.facts
  have HV := Lib.hid (And.intro hV fV)
  clear hV fV
  go_wp2
  go_ret
  refine ⟨rfl, RingIs.mk' (S := ⟨W, B, [], []⟩) (RingRec.mk (f := f) (b := f) (n0 := N0) (n1 := N3) (n2 := 0) (n3 := 0) ?_ (HV.out.1.ar.fr (S := fun x => x = rg) (by (repeat (first | (with_reducible exact Fr.refl _ _) | (with_reducible assumption) | (with_reducible exact Fr.of_nil (by assumption)) | (with_reducible refine Fr.drew ?_) | (with_reducible refine Fr.drewN ?_ _) | (with_reducible refine Fr.alloc ?_ _) | (with_reducible refine Fr.set ?_ _ _ (by first | (intros; omega) | (simp; done) | (simp; omega))) | (with_reducible refine Fr.via ?_ (by assumption)) | (with_reducible refine Fr.comp ?_ (by assumption))))) (fun q => q1 q.symm) (fun q => q2 q.symm)) HV.out.1.hl HV.out.1.hu) (by first | rfl | omega | (simp only [List.length_cons, List.length_append, List.length_nil]; done) | (simp only [List.length_cons, List.length_append, List.length_nil]; omega)) (by first | rfl | omega | (simp only [List.length_cons, List.length_append, List.length_nil]; done) | (simp only [List.length_cons, List.length_append, List.length_nil]; omega)) (by first | rfl | omega | (simp only [List.length_cons, List.length_append, List.length_nil]; done) | (simp only [List.length_cons, List.length_append, List.length_nil]; omega)) (by first | rfl | omega | (simp only [List.length_cons, List.length_append, List.length_nil]; done) | (simp only [List.length_cons, List.length_append, List.length_nil]; omega)) H.out.2, rg_rs (HV.out.2.comp (show Fr (fun x => x = rg) V _ from by (repeat (first | (with_reducible exact Fr.refl _ _) | (with_reducible assumption) | (with_reducible exact Fr.of_nil (by assumption)) | (with_reducible refine Fr.drew ?_) | (with_reducible refine Fr.drewN ?_ _) | (with_reducible refine Fr.alloc ?_ _) | (with_reducible refine Fr.set ?_ _ _ (by first | (intros; omega) | (simp; done) | (simp; omega))) | (with_reducible refine Fr.via ?_ (by assumption)) | (with_reducible refine Fr.comp ?_ (by assumption))))))⟩
  (unfold Blk; simp (disch := first | omega | (simp; done) | (simp; omega)) only [hp_drew, hp_drewN, hp_alloc, hp_other, hp_same, hp_new, upd_cells, Option.map_some, (HV.out.1.blk).eq])
  simp
theorem rend_bad (h : RingIs w rg ba bw n ⟨W, F, G, B⟩ u) (hfg : G ≠ []) :
    Calls Try.prog 16 #[.pointer (some ⟨rg, 0, none⟩)] w fun e w' => e = .returned (.int .i64 18) ∧ Fr Nil w w' := by
  obtain ⟨l, f, b, h, hO⟩ := h
  obtain ⟨q1, q2, q3⟩ := h.ne
  have hl := h.hl
  have hn := hO.len
  have hnum := hO.num
  unfold Seg4.num at hnum
  have hn5 : n ≤ 100000 := by omega
  obtain ⟨N0, hN0⟩ : ∃ N, W.length = N := ⟨_, rfl⟩
  obtain ⟨N1, hN1⟩ : ∃ N, F.length = N := ⟨_, rfl⟩
  obtain ⟨N2, hN2⟩ : ∃ N, G.length = N := ⟨_, rfl⟩
  obtain ⟨N3, hN3⟩ : ∃ N, B.length = N := ⟨_, rfl⟩
  have hE0 : (W : List Nat).length = N0 := by first | rfl | omega | (simp only [List.length_cons, List.length_append, List.length_nil]; done) | (simp only [List.length_cons, List.length_append, List.length_nil]; omega)
  have hE1 : (F : List Nat).length = N1 := by first | rfl | omega | (simp only [List.length_cons, List.length_append, List.length_nil]; done) | (simp only [List.length_cons, List.length_append, List.length_nil]; omega)
  have hE2 : (G : List Nat).length = N2 := by first | rfl | omega | (simp only [List.length_cons, List.length_append, List.length_nil]; done) | (simp only [List.length_cons, List.length_append, List.length_nil]; omega)
  have hE3 : (B : List Nat).length = N3 := by first | rfl | omega | (simp only [List.length_cons, List.length_append, List.length_nil]; done) | (simp only [List.length_cons, List.length_append, List.length_nil]; omega)
  simp only [hE0, hE1, hE2, hE3] at h hnum
  obtain ⟨c0, c1, c2, c3, c4, c5, c6, cz, clt⟩ := h.facts
  have e1 : (0 : Int) < (N2 : Int) := by
    cases G with
    | nil => exact (hfg rfl).elim
    | cons x G => simp at hN2; omega
  clear h hO hfg
  go_enter Try.func16, Try.ntmps16
  go_wp2
  go_ret
  exact ⟨rfl, by (repeat (first | (with_reducible exact Fr.refl _ _) | (with_reducible assumption) | (with_reducible exact Fr.of_nil (by assumption)) | (with_reducible refine Fr.drew ?_) | (with_reducible refine Fr.drewN ?_ _) | (with_reducible refine Fr.alloc ?_ _) | (with_reducible refine Fr.set ?_ _ _ (by first | (intros; omega) | (simp; done) | (simp; omega))) | (with_reducible refine Fr.via ?_ (by assumption)) | (with_reducible refine Fr.comp ?_ (by assumption))))⟩
set_option maxRecDepth 100000 in
set_option maxHeartbeats 4000000 in
theorem rend_ok (h : RingIs w rg ba bw n ⟨W, F, [], B⟩ u) :
    Calls Try.prog 16 #[.pointer (some ⟨rg, 0, none⟩)] w fun e w' => e = .returned (.int .i64 0) ∧ RingIs w' rg ba bw n ⟨W ++ F, [], [], B⟩ u ∧ Fr (RS rg ba bw) w w' := by
  obtain ⟨l, f, b, h, hO⟩ := h
  obtain ⟨q1, q2, q3⟩ := h.ne
  have hl := h.hl
  have hn := hO.len
  have hnum := hO.num
  unfold Seg4.num at hnum
  have hn5 : n ≤ 100000 := by omega
  obtain ⟨N0, hN0⟩ : ∃ N, W.length = N := ⟨_, rfl⟩
  obtain ⟨N1, hN1⟩ : ∃ N, F.length = N := ⟨_, rfl⟩
  obtain ⟨N3, hN3⟩ : ∃ N, B.length = N := ⟨_, rfl⟩
  have hE0 : (W : List Nat).length = N0 := by first | rfl | omega | (simp only [List.length_cons, List.length_append, List.length_nil]; done) | (simp only [List.length_cons, List.length_append, List.length_nil]; omega)
  have hE1 : (F : List Nat).length = N1 := by first | rfl | omega | (simp only [List.length_cons, List.length_append, List.length_nil]; done) | (simp only [List.length_cons, List.length_append, List.length_nil]; omega)
  have hE2 : ([] : List Nat).length = 0 := by first | rfl | omega | (simp only [List.length_cons, List.length_append, List.length_nil]; done) | (simp only [List.length_cons, List.length_append, List.length_nil]; omega)
  have hE3 : (B : List Nat).length = N3 := by first | rfl | omega | (simp only [List.length_cons, List.length_append, List.length_nil]; done) | (simp only [List.length_cons, List.length_append, List.length_nil]; omega)
  simp only [hE0, hE1, hE2, hE3] at h hnum
  have hO' := hO.over
  obtain ⟨c0, c1, c2, c3, c4, c5, c6, cz, clt⟩ := h.facts
  have H := Lib.hid (And.intro h hO')
  have w1 : IntKind.i64.wrap ((N0 : Int) + (N1 : Int)) = (N0 : Int) + (N1 : Int) := by rw [IntKind.wrap_i64]; omega
  clear h hO hO'
  go_enter Try.func16, Try.ntmps16
  go_wp2_with fail
  apply wp_via (F := fun V => RingRec V rg ba bw l u f b (N0 + N1) 0 0 N3 ∧ Fr (fun x => x = rg) w V)
  · go_region
    all_goals
      refine Via.mk ⟨⟨?_, H.out.1.ar.fr (S := fun x => x = rg) (by (repeat (first | (with_reducible exact Fr.refl _ _) | (with_reducible assumption) | (with_reducible exact Fr.of_nil (by assumption)) | (with_reducible refine Fr.drew ?_) | (with_reducible refine Fr.drewN ?_ _) | (with_reducible refine Fr.alloc ?_ _) | (with_reducible refine Fr.set ?_ _ _ (by first | (intros; omega) | (simp; done) | (simp; omega))) | (with_reducible refine Fr.via ?_ (by assumption)) | (with_reducible refine Fr.comp ?_ (by assumption))))) (fun q => q1 q.symm) (fun q => q2 q.symm), H.out.1.hl, H.out.1.hu⟩, by (repeat (first | (with_reducible exact Fr.refl _ _) | (with_reducible assumption) | (with_reducible exact Fr.of_nil (by assumption)) | (with_reducible refine Fr.drew ?_) | (with_reducible refine Fr.drewN ?_ _) | (with_reducible refine Fr.alloc ?_ _) | (with_reducible refine Fr.set ?_ _ _ (by first | (intros; omega) | (simp; done) | (simp; omega))) | (with_reducible refine Fr.via ?_ (by assumption)) | (with_reducible refine Fr.comp ?_ (by assumption))))⟩
      (unfold Blk; simp (disch := first | omega | (simp; done) | (simp; omega)) only [hp_drew, hp_drewN, hp_alloc, hp_other, hp_same, hp_new, upd_cells, Option.map_some, (H.out.1.blk).eq])
      simp
  rintro V ⟨hV, fV⟩
  have HV := Lib.hid (And.intro hV fV)
  clear hV fV
  go_wp2
  go_ret
  exact ⟨rfl, RingIs.mk' (S := ⟨W ++ F, [], [], B⟩) HV.out.1 (by first | rfl | omega | (simp only [List.length_cons, List.length_append, List.length_nil]; done) | (simp only [List.length_cons, List.length_append, List.length_nil]; omega)) (by first | rfl | omega | (simp only [List.length_cons, List.length_append, List.length_nil]; done) | (simp only [List.length_cons, List.length_append, List.length_nil]; omega)) (by first | rfl | omega | (simp only [List.length_cons, List.length_append, List.length_nil]; done) | (simp only [List.length_cons, List.length_append, List.length_nil]; omega)) (by first | rfl | omega | (simp only [List.length_cons, List.length_append, List.length_nil]; done) | (simp only [List.length_cons, List.length_append, List.length_nil]; omega)) H.out.2, rg_rs HV.out.2⟩
set_option maxRecDepth 100000 in
set_option maxHeartbeats 4000000 in
theorem rdrop_some (h : RingIs w rg ba bw n ⟨c :: W, F, G, B⟩ u) (hu : u ≤ 900000000000) :
    Calls Try.prog 41 #[.pointer (some ⟨rg, 0, none⟩)] w fun e w' => e = .returned (.tuple #[.int .i64 (c : Int), .int .i64 0]) ∧ (∃ u', RingIs w' rg ba bw n ⟨W, F, G, B⟩ u' ∧ u' ≤ u + 20) ∧ Fr (RS rg ba bw) w w' := by
  obtain ⟨l, f, b, h, hO⟩ := h
  obtain ⟨q1, q2, q3⟩ := h.ne
  have hl := h.hl
  have hn := hO.len
  have hnum := hO.num
  unfold Seg4.num at hnum
  have hn5 : n ≤ 100000 := by omega
  obtain ⟨N0, hN0⟩ : ∃ N, W.length = N := ⟨_, rfl⟩
  obtain ⟨N1, hN1⟩ : ∃ N, F.length = N := ⟨_, rfl⟩
  obtain ⟨N2, hN2⟩ : ∃ N, G.length = N := ⟨_, rfl⟩
  obtain ⟨N3, hN3⟩ : ∃ N, B.length = N := ⟨_, rfl⟩
  have hE0 : (c :: W : List Nat).length = N0 + 1 := by first | rfl | omega | (simp only [List.length_cons, List.length_append, List.length_nil]; done) | (simp only [List.length_cons, List.length_append, List.length_nil]; omega)
  have hE1 : (F : List Nat).length = N1 := by first | rfl | omega | (simp only [List.length_cons, List.length_append, List.length_nil]; done) | (simp only [List.length_cons, List.length_append, List.length_nil]; omega)
  have hE2 : (G : List Nat).length = N2 := by first | rfl | omega | (simp only [List.length_cons, List.length_append, List.length_nil]; done) | (simp only [List.length_cons, List.length_append, List.length_nil]; omega)
  have hE3 : (B : List Nat).length = N3 := by first | rfl | omega | (simp only [List.length_cons, List.length_append, List.length_nil]; done) | (simp only [List.length_cons, List.length_append, List.length_nil]; omega)
  simp only [hE0, hE1, hE2, hE3] at h hnum
  obtain ⟨rfl, hc1, hc2⟩ := hO.first
  obtain ⟨p, q, hp, hq, hp3, hq3, hO'⟩ := hO.drop
  obtain ⟨c0, c1, c2, c3, c4, c5, c6, cz, clt⟩ := h.facts
  have H := Lib.hid (And.intro h (And.intro hp (And.intro hq hO')))
  have e1 : ¬ ((N0 + 1 : Nat) : Int) = 0 := by omega
  have e2 : (((N0 + 1 : Nat) : Int) == 0) = false := by simp; omega
  clear h hO hO' hp hq
  go_enter Try.func41, Try.ntmps41
  go_wp2_with fail
  refine (rcut_any rg ba bw l u f b (N0 + 1) N1 N2 N3 _ H.out.1 f p q (by omega) (by omega) (by omega) H.out.2.1 H.out.2.2.1 (by omega)).mono ?_
  rintro e w1 ⟨rfl, h1, f1⟩
  clear c0 c1 c2 c3 c4 c5 c6 cz clt
  obtain ⟨c0, c1, c2, c3, c4, c5, c6, cz, clt⟩ := h1.facts
  have H1 := Lib.hid (And.intro h1 f1)
  clear h1 f1
  by_cases hbf : b = f
  · have HO : RingOf (lkL l p q) n q q ⟨W, F, G, B⟩ := by have := H.out.2.2.2; rw [if_pos hbf] at this; exact this
    subst hbf
    go_wp2_with fail
    obtain ⟨V, hV⟩ : ∃ V, (w1.setCell ⟨rg, 1, none⟩ (.int .i64 (q : Int))).setCell ⟨rg, 2, none⟩ (.int .i64 (q : Int)) = V := ⟨_, rfl⟩
    rw [hV]
    have bV : Blk V rg #[.pointer (some ⟨ba, 0, none⟩), .int .i64 (q : Int), .int .i64 (q : Int), .int .i64 (((N0 + 1 : Nat) : Int) : Int), .int .i64 (N1 : Int), .int .i64 (N2 : Int), .int .i64 (N3 : Int)] 68 := by
      rw [← hV]
      (unfold Blk; simp (disch := first | omega | (simp; done) | (simp; omega)) only [hp_drew, hp_drewN, hp_alloc, hp_other, hp_same, hp_new, upd_cells, Option.map_some, (H1.out.1.blk).eq])
      simp
    have fV : Fr (fun x => x = rg) w1 V := by rw [← hV]; (repeat (first | (with_reducible exact Fr.refl _ _) | (with_reducible assumption) | (with_reducible exact Fr.of_nil (by assumption)) | (with_reducible refine Fr.drew ?_) | (with_reducible refine Fr.drewN ?_ _) | (with_reducible refine Fr.alloc ?_ _) | (with_reducible refine Fr.set ?_ _ _ (by first | (intros; omega) | (simp; done) | (simp; omega))) | (with_reducible refine Fr.via ?_ (by assumption)) | (with_reducible refine Fr.comp ?_ (by assumption))))
    clear hV c0 c1 c2 c3 c4 c5 c6 cz clt
    have c3 := bV.cell 3
    simp at c3
    have cz := bV.free
    have clt := bV.lt
    have HB := Lib.hid (And.intro bV fV)
    clear bV fV
    go_still_tail 9, (by kernel_rfl)
    change wpList _ _ _ _ _ V.drew
    go_wp2
    go_ret2
    refine ⟨rfl, ⟨_, RingIs.mk' (S := ⟨W, F, G, B⟩) (RingRec.mk (f := q) (b := q) (n0 := N0) (n1 := N1) (n2 := N2) (n3 := N3) ?_ ((H1.out.1.ar).fr (S := fun x => x = rg) HB.out.2 (fun q => q1 q.symm) (fun q => q2 q.symm) |>.fr (S := fun x => x = rg) (show Fr (fun x => x = rg) V _ from by (repeat (first | (with_reducible exact Fr.refl _ _) | (with_reducible assumption) | (with_reducible exact Fr.of_nil (by assumption)) | (with_reducible refine Fr.drew ?_) | (with_reducible refine Fr.drewN ?_ _) | (with_reducible refine Fr.alloc ?_ _) | (with_reducible refine Fr.set ?_ _ _ (by first | (intros; omega) | (simp; done) | (simp; omega))) | (with_reducible refine Fr.via ?_ (by assumption)) | (with_reducible refine Fr.comp ?_ (by assumption))))) (fun q => q1 q.symm) (fun q => q2 q.symm)) (by rw [lkL_len]; exact hl) H1.out.1.hu) (by first | rfl | omega | (simp only [List.length_cons, List.length_append, List.length_nil]; done) | (simp only [List.length_cons, List.length_append, List.length_nil]; omega)) (by first | rfl | omega | (simp only [List.length_cons, List.length_append, List.length_nil]; done) | (simp only [List.length_cons, List.length_append, List.length_nil]; omega)) (by first | rfl | omega | (simp only [List.length_cons, List.length_append, List.length_nil]; done) | (simp only [List.length_cons, List.length_append, List.length_nil]; omega)) (by first | rfl | omega | (simp only [List.length_cons, List.length_append, List.length_nil]; done) | (simp only [List.length_cons, List.length_append, List.length_nil]; omega)) (HO), by omega⟩, ((as_rs H1.out.2).comp (rg_rs HB.out.2)).comp (show Fr (RS rg ba bw) V _ from rg_rs (by (repeat (first | (with_reducible exact Fr.refl _ _) | (with_reducible assumption) | (with_reducible exact Fr.of_nil (by assumption)) | (with_reducible refine Fr.drew ?_) | (with_reducible refine Fr.drewN ?_ _) | (with_reducible refine Fr.alloc ?_ _) | (with_reducible refine Fr.set ?_ _ _ (by first | (intros; omega) | (simp; done) | (simp; omega))) | (with_reducible refine Fr.via ?_ (by assumption)) | (with_reducible refine Fr.comp ?_ (by assumption))))))⟩
    (unfold Blk; simp (disch := first | omega | (simp; done) | (simp; omega)) only [hp_drew, hp_drewN, hp_alloc, hp_other, hp_same, hp_new, upd_cells, Option.map_some, (HB.out.1).eq])
    simp [wrap_nat N0 (by omega)]
  · have HO : RingOf (lkL l p q) n q b ⟨W, F, G, B⟩ := by have := H.out.2.2.2; rw [if_neg hbf] at this; exact this
    have e3 : ¬ (b : Int) = (f : Int) := by omega
    have e4 : ((b : Int) == (f : Int)) = false := by simp; omega
    go_wp2_with fail
    obtain ⟨V, hV⟩ : ∃ V, (w1.setCell ⟨rg, 1, none⟩ (.int .i64 (q : Int))) = V := ⟨_, rfl⟩
    rw [hV]
    have bV : Blk V rg #[.pointer (some ⟨ba, 0, none⟩), .int .i64 (q : Int), .int .i64 (b : Int), .int .i64 (((N0 + 1 : Nat) : Int) : Int), .int .i64 (N1 : Int), .int .i64 (N2 : Int), .int .i64 (N3 : Int)] 68 := by
      rw [← hV]
      (unfold Blk; simp (disch := first | omega | (simp; done) | (simp; omega)) only [hp_drew, hp_drewN, hp_alloc, hp_other, hp_same, hp_new, upd_cells, Option.map_some, (H1.out.1.blk).eq])
      simp
    have fV : Fr (fun x => x = rg) w1 V := by rw [← hV]; (repeat (first | (with_reducible exact Fr.refl _ _) | (with_reducible assumption) | (with_reducible exact Fr.of_nil (by assumption)) | (with_reducible refine Fr.drew ?_) | (with_reducible refine Fr.drewN ?_ _) | (with_reducible refine Fr.alloc ?_ _) | (with_reducible refine Fr.set ?_ _ _ (by first | (intros; omega) | (simp; done) | (simp; omega))) | (with_reducible refine Fr.via ?_ (by assumption)) | (with_reducible refine Fr.comp ?_ (by assumption))))
    clear hV c0 c1 c2 c3 c4 c5 c6 cz clt
    have c3 := bV.cell 3
    simp at c3
    have cz := bV.free
    have clt := bV.lt
    have HB := Lib.hid (And.intro bV fV)
    clear bV fV
    go_still_tail 9, (by kernel_rfl)
    change wpList _ _ _ _ _ V.drew
    go_wp2
    go_ret2
    refine ⟨rfl, ⟨_, RingIs.mk' (S := ⟨W, F, G, B⟩) (RingRec.mk (f := q) (b := b) (n0 := N0) (n1 := N1) (n2 := N2) (n3 := N3) ?_ ((H1.out.1.ar).fr (S := fun x => x = rg) HB.out.2 (fun q => q1 q.symm) (fun q => q2 q.symm) |>.fr (S := fun x => x = rg) (show Fr (fun x => x = rg) V _ from by (repeat (first | (with_reducible exact Fr.refl _ _) | (with_reducible assumption) | (with_reducible exact Fr.of_nil (by assumption)) | (with_reducible refine Fr.drew ?_) | (with_reducible refine Fr.drewN ?_ _) | (with_reducible refine Fr.alloc ?_ _) | (with_reducible refine Fr.set ?_ _ _ (by first | (intros; omega) | (simp; done) | (simp; omega))) | (with_reducible refine Fr.via ?_ (by assumption)) | (with_reducible refine Fr.comp ?_ (by assumption))))) (fun q => q1 q.symm) (fun q => q2 q.symm)) (by rw [lkL_len]; exact hl) H1.out.1.hu) (by first | rfl | omega | (simp only [List.length_cons, List.length_append, List.length_nil]; done) | (simp only [List.length_cons, List.length_append, List.length_nil]; omega)) (by first | rfl | omega | (simp only [List.length_cons, List.length_append, List.length_nil]; done) | (simp only [List.length_cons, List.length_append, List.length_nil]; omega)) (by first | rfl | omega | (simp only [List.length_cons, List.length_append, List.length_nil]; done) | (simp only [List.length_cons, List.length_append, List.length_nil]; omega)) (by first | rfl | omega | (simp only [List.length_cons, List.length_append, List.length_nil]; done) | (simp only [List.length_cons, List.length_append, List.length_nil]; omega)) (HO), by omega⟩, ((as_rs H1.out.2).comp (rg_rs HB.out.2)).comp (show Fr (RS rg ba bw) V _ from rg_rs (by (repeat (first | (with_reducible exact Fr.refl _ _) | (with_reducible assumption) | (with_reducible exact Fr.of_nil (by assumption)) | (with_reducible refine Fr.drew ?_) | (with_reducible refine Fr.drewN ?_ _) | (with_reducible refine Fr.alloc ?_ _) | (with_reducible refine Fr.set ?_ _ _ (by first | (intros; omega) | (simp; done) | (simp; omega))) | (with_reducible refine Fr.via ?_ (by assumption)) | (with_reducible refine Fr.comp ?_ (by assumption))))))⟩
    (unfold Blk; simp (disch := first | omega | (simp; done) | (simp; omega)) only [hp_drew, hp_drewN, hp_alloc, hp_other, hp_same, hp_new, upd_cells, Option.map_some, (HB.out.1).eq])
    simp [wrap_nat N0 (by omega)]
theorem rcounts_any (S : Seg4) (h : RingIs w rg ba bw n S u) :
    Calls Try.prog 17 #[.pointer (some ⟨rg, 0, none⟩)] w fun e w' => e = .returned (.agg #[.int .i64 (S.W.length : Int), .int .i64 (S.F.length : Int), .int .i64 (S.G.length : Int), .int .i64 (S.B.length : Int)]) ∧ Fr Nil w w' := by
  obtain ⟨l, f, b, h, hO⟩ := h
  obtain ⟨N0, hN0⟩ : ∃ N, S.W.length = N := ⟨_, rfl⟩
  obtain ⟨N1, hN1⟩ : ∃ N, S.F.length = N := ⟨_, rfl⟩
  obtain ⟨N2, hN2⟩ : ∃ N, S.G.length = N := ⟨_, rfl⟩
  obtain ⟨N3, hN3⟩ : ∃ N, S.B.length = N := ⟨_, rfl⟩
  rw [hN0, hN1, hN2, hN3] at h ⊢
  obtain ⟨c0, c1, c2, c3, c4, c5, c6, cz, clt⟩ := h.facts
  clear h hO hN0 hN1 hN2 hN3
  go_enter Try.func17, Try.ntmps17
  go_wp2
  refine bodyPost_ret (v := .agg #[.int .i64 (N0 : Int), .int .i64 (N1 : Int), .int .i64 (N2 : Int), .int .i64 (N3 : Int)]) (by simp [results, Try.results17, go_sem]) rfl ⟨rfl, by (repeat (first | (with_reducible exact Fr.refl _ _) | (with_reducible assumption) | (with_reducible exact Fr.of_nil (by assumption)) | (with_reducible refine Fr.drew ?_) | (with_reducible refine Fr.drewN ?_ _) | (with_reducible refine Fr.alloc ?_ _) | (with_reducible refine Fr.set ?_ _ _ (by first | (intros; omega) | (simp; done) | (simp; omega))) | (with_reducible refine Fr.via ?_ (by assumption)) | (with_reducible refine Fr.comp ?_ (by assumption))))⟩
end
end Go.Proofs.Ytlpdlhmdhlcdlaa
