/-
  Contracts: Take and Give, each as one; the laws' do and awake. No conditions but sizes.
-/
import Derived.Test.YtjcnbfiholcjkaaExt6
import Derived.Test.YtjcnbfiholcjkaaOpen
namespace Go.Proofs.Ytjcnbfiholcjkaa
set_option linter.unusedSimpArgs false
set_option linter.unusedVariables false
open Go.RowKit Go.Shelf

/-- What Take answers, and what it leaves. -/
def takeR (n : Int) (L : List (Nat × Nat)) : Nat × Nat × List (Nat × Nat) := if n < 1 then (0, 1, L) else match takeL n.toNat L with
  | none => (0, 2, L)
  | some r => (r.1, 0, r.2)
def giveR (f p : Nat) (a n : Int) (L : List (Nat × Nat)) : Nat × List (Nat × Nat) := if withinB f p a n then (if L.any (meetB a.toNat n.toNat) then (5, L) else (0, giveL a.toNat n.toNat L)) else (1, L)
def Grew (w : World) (v v' : Value) : Prop := ∀ k, v'.ownBlock = some k → v.ownBlock = some k ∨ w.heap.size ≤ k
theorem Grew.refl (w : World) (v : Value) : Grew w v v := fun k q => .inl q
theorem Grew.of_eq {w : World} {v v' : Value} (h : v'.ownBlock = v.ownBlock) : Grew w v v' := fun k q => .inl (by rw [← h]; exact q)
theorem Grew.mono {w w1 : World} {v v' : Value} (h : Grew w1 v v') (hs : w.heap.size ≤ w1.heap.size) : Grew w v v' := fun k q => (h k q).imp id (fun q => by omega)
theorem Grew.trans {w w1 : World} {v v' v'' : Value} (h : Grew w v v') (g : Grew w1 v' v'') (hs : w.heap.size ≤ w1.heap.size) : Grew w v v'' := fun k q => by
  rcases g k q with r | r
  · exact h k r
  · exact .inr (by omega)
section
variable (br f p : Nat) (v : Value) (L : List (Nat × Nat)) (w : World)
theorem take_any (h : RoomAt w br f p v L) (n : Int) : Calls Try.prog 17 #[.pointer (some ⟨br, 0, none⟩), .int .i64 n] w fun e w' =>
    ∃ v', e = .returned (.tuple #[.int .i64 ((takeR n L).1 : Nat), .int .i64 ((takeR n L).2.1 : Nat)]) ∧ RoomAt w' br f p v' (takeR n L).2.2 ∧ Grew w v v' ∧ Fr (TS br v) w w' := by
  unfold takeR
  by_cases c : n < 1
  · rw [if_pos c]
    refine (take_bad br w n c).mono ?_
    rintro e w' ⟨rfl, f1⟩
    exact ⟨v, rfl, h.fr f1 (fun _ _ q => q), Grew.refl _ _, f1.of_nil⟩
  · rw [if_neg c]
    obtain ⟨m, rfl⟩ := Int.eq_ofNat_of_zero_le (by omega : 0 ≤ n)
    rw [Int.toNat_natCast]
    cases ht : takeL m L with
    | none =>
      refine (take_full br f p v L w h m (by omega) ht).mono ?_
      rintro e w' ⟨rfl, f1⟩
      exact ⟨v, rfl, h.fr f1 (fun _ _ q => q), Grew.refl _ _, f1.of_nil⟩
    | some r =>
      obtain ⟨a, M⟩ := r
      refine (take_some br f p v L w h m (by omega) a M ht).mono ?_
      rintro e w' ⟨v', rfl, h1, h2, f1⟩
      exact ⟨v', rfl, h1, Grew.of_eq h2, f1⟩
theorem any_meet {lo hi a n : Nat} {L : List (Nat × Nat)} (hc : CanL lo hi L) (hn : 1 ≤ n) : (L.any (meetB a n) = true) ↔ ∃ q, a ≤ q ∧ q < a + n ∧ hasL L q := by
  rw [← meet_iff hc hn]
  simp
theorem give_any (h : RoomAt w br f p v L) (a n : Int) (ha : IntKind.i64.wrap a = a) : Calls Try.prog 18 #[.pointer (some ⟨br, 0, none⟩), .int .i64 a, .int .i64 n] w fun e w' =>
    ∃ v', e = .returned (.int .i64 ((giveR f p a n L).1 : Nat)) ∧ RoomAt w' br f p v' (giveR f p a n L).2 ∧ Grew w v v' ∧ Fr (TS br v) w w' := by
  unfold giveR
  cases hw : withinB f p a n with
  | false =>
    refine (give_out br f p v L w h a n ha hw).mono ?_
    rintro e w' ⟨rfl, f1⟩
    exact ⟨v, rfl, h.fr f1 (fun _ _ q => q), Grew.refl _ _, f1.of_nil⟩
  | true =>
    obtain ⟨a, n, rfl, rfl, h1, h2, h3⟩ := within_nat hw
    rw [if_pos rfl, Int.toNat_natCast, Int.toNat_natCast]
    cases hm : L.any (meetB a n) with
    | true =>
      refine (give_twice br f p v L w h a n h1 h2 h3 ((any_meet h.can h1).1 hm)).mono ?_
      rintro e w' ⟨rfl, f1⟩
      exact ⟨v, rfl, h.fr f1 (fun _ _ q => q), Grew.refl _ _, f1.of_nil⟩
    | false =>
      refine (give_in br f p v L w h a n h1 h2 h3 (fun q q1 q2 q3 => by rw [(any_meet h.can h1).2 ⟨q, q1, q2, q3⟩] at hm; cases hm)).mono ?_
      rintro e w' ⟨v', rfl, g1, g2, f1⟩
      exact ⟨v', rfl, g1, g2, f1⟩
end
theorem fr_set2 {S : Nat → Prop} (w : World) (b : Nat) (hb : S b) (o1 o2 : Nat) (v1 v2 : Value) : Fr S w ((w.setCell ⟨b, o1, none⟩ v1).setCell ⟨b, o2, none⟩ v2) :=
  ((Fr.refl S w).set ⟨b, o1, none⟩ v1 (fun _ => hb)).set ⟨b, o2, none⟩ v2 (fun _ => hb)
theorem RoomAt.ge {w : World} {br f p : Nat} {v : Value} {L : List (Nat × Nat)} (h : RoomAt w br f p v L) : ∀ k, TS br v k → br ≤ k := fun k q => by
  rcases q with q | q
  · omega
  · have := (h.pairs.own q).1; omega
def doR (f p : Nat) (x : Act3) (L : List (Nat × Nat)) : Nat × Nat × List (Nat × Nat) := if x.kind = 0 then takeR x.word L else (0, (giveR f p x.at_ x.word L).1, (giveR f p x.at_ x.word L).2)
set_option maxRecDepth 100000 in
theorem do_any (br f p : Nat) (v : Value) (L : List (Nat × Nat)) (w : World) (h : RoomAt w br f p v L) (x : Act3) (hx : IntKind.i64.wrap x.at_ = x.at_) :
    Calls Try.prog 10 #[.pointer (some ⟨br, 0, none⟩), .agg #[.int .i64 x.kind, .int .i64 x.at_, .int .i64 x.word]] w fun e w' =>
      ∃ v', e = .returned (.agg #[.int .i64 ((doR f p x L).1 : Nat), .int .i64 ((doR f p x L).2.1 : Nat)]) ∧ RoomAt w' br f p v' (doR f p x L).2.2 ∧ Grew w v v' ∧ Fr (TS br v) w w' := by
  obtain ⟨kd, a, n⟩ := x
  simp only [] at hx
  have hbr := h.blk.lt
  have hv : ∀ k, v.ownBlock = some k → k < w.heap.size := fun k q => (h.pairs.own q).2
  have H := Lib.hid (And.intro h (And.intro hx hv))
  clear h hx hv
  unfold doR
  simp only []
  by_cases hk : kd = 0
  · subst hk
    rw [if_pos rfl]
    obtain ⟨T, hT⟩ : ∃ T, takeR n L = T := ⟨_, rfl⟩
    have HT := Lib.hid hT
    rw [hT]
    clear hT
    go_enter Try.func10, Try.ntmps10
    go_wp2_with fail
    refine (take_any br f p v L _ (H.out.1.fr (S := Nil) (by (repeat (first | (with_reducible exact Fr.refl _ _) | (with_reducible assumption) | (with_reducible exact Fr.of_nil (by assumption)) | (with_reducible refine Fr.drew ?_) | (with_reducible refine Fr.drewN ?_ _) | (with_reducible refine Fr.alloc ?_ _) | (with_reducible refine Fr.set ?_ _ _ (by first | (intros; omega) | (simp; done) | (simp; omega))) | (with_reducible refine Fr.via ?_ (by assumption)) | (with_reducible refine Fr.comp ?_ (by assumption))))) (fun _ _ q => q)) n).mono ?_
    rw [HT.out]
    rintro e w1 ⟨v', rfl, h1, g1, f1⟩
    have hS : ¬ TS br v (w.heap.size + 1) := fun q => by
      rcases q with q | q
      · omega
      · have := H.out.2.2 _ q; omega
    have g4 := f1.blk (b := w.heap.size + 1) (c := #[.int .i64 0, .int .i64 0]) (t := 32) (by (unfold Blk; simp (disch := first | omega | (simp; done) | (simp; omega)) only [hp_drew, hp_drewN, hp_alloc, hp_other, hp_same, hp_new, upd_cells, Option.map_some])) hS
    have q0 := g4.cell 0
    have q1 := g4.cell 1
    have r0 := g4.free 0
    have r1 := g4.free 1
    simp at q0 q1
    have hw1 := g4.lt
    have hgr : Grew w v v' := g1.mono (by simp; omega)
    have hS' : ∀ k, TS br v' k → ¬ k = w.heap.size + 1 := fun k q e => by
      rcases q with q | q
      · omega
      · rcases g1 k q with r | r
        · have := H.out.2.2 _ r; omega
        · simp at r; omega
    have h2 : RoomAt ((w1.setCell ⟨w.heap.size + 1, 0, none⟩ (.int .i64 (T.1 : Nat))).setCell ⟨w.heap.size + 1, 1, none⟩ (.int .i64 (T.2.1 : Nat))) br f p v' T.2.2 :=
      h1.fr (fr_set2 (S := fun b => b = w.heap.size + 1) _ _ rfl 0 1 _ _) hS'
    have f2 : Fr (TS br v) w ((w1.setCell ⟨w.heap.size + 1, 0, none⟩ (.int .i64 (T.1 : Nat))).setCell ⟨w.heap.size + 1, 1, none⟩ (.int .i64 (T.2.1 : Nat))) :=
      ((Fr.trans (S' := TS br v) (show Fr (TS br v) w _ from by (repeat (first | (with_reducible exact Fr.refl _ _) | (with_reducible assumption) | (with_reducible exact Fr.of_nil (by assumption)) | (with_reducible refine Fr.drew ?_) | (with_reducible refine Fr.drewN ?_ _) | (with_reducible refine Fr.alloc ?_ _) | (with_reducible refine Fr.set ?_ _ _ (by first | (intros; omega) | (simp; done) | (simp; omega))) | (with_reducible refine Fr.via ?_ (by assumption)) | (with_reducible refine Fr.comp ?_ (by assumption))))) f1 (fun _ _ q => q)).set _ _ (fun q => absurd q (by simp))).set _ _ (fun q => absurd q (by simp))
    have HF := Lib.hid (And.intro h2 (And.intro hgr f2))
    clear h1 f1 g1 g4 h2 hgr f2 hS hS'
    go_wp2
    refine bodyPost_ret (v := .agg #[.int .i64 (T.1 : Nat), .int .i64 (T.2.1 : Nat)]) (by simp [results, Try.results10, go_sem, q0, q1]) rfl ⟨v', rfl, HF.out.1, HF.out.2.1, HF.out.2.2⟩
  · rw [if_neg hk]
    have hk' : (kd == 0) = false := by simpa using hk
    obtain ⟨T, hT⟩ : ∃ T, giveR f p a n L = T := ⟨_, rfl⟩
    have HT := Lib.hid hT
    rw [hT]
    clear hT hk
    go_enter Try.func10, Try.ntmps10
    go_wp2_with fail
    refine (give_any br f p v L _ (H.out.1.fr (S := Nil) (by (repeat (first | (with_reducible exact Fr.refl _ _) | (with_reducible assumption) | (with_reducible exact Fr.of_nil (by assumption)) | (with_reducible refine Fr.drew ?_) | (with_reducible refine Fr.drewN ?_ _) | (with_reducible refine Fr.alloc ?_ _) | (with_reducible refine Fr.set ?_ _ _ (by first | (intros; omega) | (simp; done) | (simp; omega))) | (with_reducible refine Fr.via ?_ (by assumption)) | (with_reducible refine Fr.comp ?_ (by assumption))))) (fun _ _ q => q)) a n H.out.2.1).mono ?_
    rw [HT.out]
    rintro e w1 ⟨v', rfl, h1, g1, f1⟩
    have hS : ¬ TS br v (w.heap.size + 1) := fun q => by
      rcases q with q | q
      · omega
      · have := H.out.2.2 _ q; omega
    have g4 := f1.blk (b := w.heap.size + 1) (c := #[.int .i64 0, .int .i64 0]) (t := 32) (by (unfold Blk; simp (disch := first | omega | (simp; done) | (simp; omega)) only [hp_drew, hp_drewN, hp_alloc, hp_other, hp_same, hp_new, upd_cells, Option.map_some])) hS
    have q0 := g4.cell 0
    have q1 := g4.cell 1
    have r0 := g4.free 0
    have r1 := g4.free 1
    simp at q0 q1
    have hw1 := g4.lt
    have hgr : Grew w v v' := g1.mono (by simp; omega)
    have hS' : ∀ k, TS br v' k → ¬ k = w.heap.size + 1 := fun k q e => by
      rcases q with q | q
      · omega
      · rcases g1 k q with r | r
        · have := H.out.2.2 _ r; omega
        · simp at r; omega
    have h2 : RoomAt ((w1.setCell ⟨w.heap.size + 1, 0, none⟩ (.int .i64 0)).setCell ⟨w.heap.size + 1, 1, none⟩ (.int .i64 (T.1 : Nat))) br f p v' T.2 :=
      h1.fr (fr_set2 (S := fun b => b = w.heap.size + 1) _ _ rfl 0 1 _ _) hS'
    have f2 : Fr (TS br v) w ((w1.setCell ⟨w.heap.size + 1, 0, none⟩ (.int .i64 0)).setCell ⟨w.heap.size + 1, 1, none⟩ (.int .i64 (T.1 : Nat))) :=
      ((Fr.trans (S' := TS br v) (show Fr (TS br v) w _ from by (repeat (first | (with_reducible exact Fr.refl _ _) | (with_reducible assumption) | (with_reducible exact Fr.of_nil (by assumption)) | (with_reducible refine Fr.drew ?_) | (with_reducible refine Fr.drewN ?_ _) | (with_reducible refine Fr.alloc ?_ _) | (with_reducible refine Fr.set ?_ _ _ (by first | (intros; omega) | (simp; done) | (simp; omega))) | (with_reducible refine Fr.via ?_ (by assumption)) | (with_reducible refine Fr.comp ?_ (by assumption))))) f1 (fun _ _ q => q)).set _ _ (fun q => absurd q (by simp))).set _ _ (fun q => absurd q (by simp))
    have HF := Lib.hid (And.intro h2 (And.intro hgr f2))
    clear h1 f1 g1 g4 h2 hgr f2 hS hS'
    go_wp2
    refine bodyPost_ret (v := .agg #[.int .i64 0, .int .i64 (T.1 : Nat)]) (by simp [results, Try.results10, go_sem, q0, q1]) rfl ⟨v', rfl, HF.out.1, HF.out.2.1, HF.out.2.2⟩
set_option maxRecDepth 100000 in
theorem awake_any (w : World) : Calls Try.prog 7 #[] w fun e w' => e = .returned (.bool true) ∧ Fr Nil w w' := by
  go_enter Try.func7, Try.ntmps7
  go_wp2_with fail
  refine (new_in 5 10 (by omega) (by omega) _).mono ?_
  rintro e w1 ⟨v1, rfl, h1, f1⟩
  have hb1 : w.heap.size < w1.heap.size := h1.blk.lt
  go_wp2_with fail
  refine (take_any w.heap.size 5 10 v1 _ _ h1 4).mono ?_
  rw [show takeR 4 (newL 5 10) = (5, 0, [(9, 6)]) from by decide]
  rintro e w2 ⟨v2, rfl, h2, g2, f2⟩
  go_wp2_with fail
  refine (take_any w.heap.size 5 10 v2 _ _ h2 3).mono ?_
  rw [show takeR 3 [(9, 6)] = (9, 0, [(12, 3)]) from by decide]
  rintro e w3 ⟨v3, rfl, h3, g3, f3⟩
  go_wp2_with fail
  refine (give_any w.heap.size 5 10 v3 _ _ h3 5 4 (by decide)).mono ?_
  rw [show giveR 5 10 5 4 [(12, 3)] = (0, [(5, 4), (12, 3)]) from by decide]
  rintro e w4 ⟨v4, rfl, h4, g4, f4⟩
  have f4' : Fr Nil w w4 := ((f1.trans f2 (fun k hk q => by have := h1.ge k q; omega)).trans f3 (fun k hk q => by have := h2.ge k q; omega)).trans f4 (fun k hk q => by have := h3.ge k q; omega)
  have HF := Lib.hid (And.intro f4' h4)
  clear f1 f2 f3 f4 f4' h1 h2 h3 h4 g2 g3 g4
  go_wp2_with fail
  refine (list_any w.heap.size 5 10 v4 _ _ HF.out.2).mono ?_
  rintro e w5 ⟨v5, rfl, h5, f5⟩
  obtain ⟨a5, c5, rfl⟩ := h5.shape
  go_wp2_with fail
  refine (same_any [(5, 4), (12, 3)] [(5, 4), (12, 3)] _ _ _ w5.heap.size _ (h5.fr (by (repeat (first | (with_reducible exact Fr.refl _ _) | (with_reducible assumption) | (with_reducible exact Fr.of_nil (by assumption)) | (with_reducible refine Fr.drew ?_) | (with_reducible refine Fr.drewN ?_ _) | (with_reducible refine Fr.alloc ?_ _) | (with_reducible refine Fr.set ?_ _ _ (by first | (intros; omega) | (simp; done) | (simp; omega))) | (with_reducible refine Fr.via ?_ (by assumption)) | (with_reducible refine Fr.comp ?_ (by assumption)))))) (PairsAt.mk rfl (g := w5.heap.size) (cur := #[.int .i64 5, .int .i64 4, .int .i64 12, .int .i64 3]) (Nat.le_refl _) (by (unfold Blk; simp (disch := first | omega | (simp; done) | (simp; omega)) only [hp_drew, hp_drewN, hp_alloc, hp_other, hp_same, hp_new, upd_cells, Option.map_some])) (by simp) (by unfold maxLen; simp) rfl rfl) (by simp) (by simp)).mono ?_
  rw [show decide ([(5, 4), (12, 3)] = [(5, 4), (12, 3)]) = true from by decide]
  rintro e w6 ⟨rfl, f6⟩
  go_wp2_with fail
  refine (free_any w.heap.size 5 10 v4 _ _ (HF.out.2.fr (S := Nil) (by (repeat (first | (with_reducible exact Fr.refl _ _) | (with_reducible assumption) | (with_reducible exact Fr.of_nil (by assumption)) | (with_reducible refine Fr.drew ?_) | (with_reducible refine Fr.drewN ?_ _) | (with_reducible refine Fr.alloc ?_ _) | (with_reducible refine Fr.set ?_ _ _ (by first | (intros; omega) | (simp; done) | (simp; omega))) | (with_reducible refine Fr.via ?_ (by assumption)) | (with_reducible refine Fr.comp ?_ (by assumption))))) (fun _ _ q => q))).mono ?_
  rw [show sumL [(5, 4), (12, 3)] = 7 from by decide]
  rintro e w7 ⟨rfl, f7⟩
  go_wp2
  go_ret
  exact ⟨rfl, HF.out.1.trans (show Fr Nil w4 w7 from by (repeat (first | (with_reducible exact Fr.refl _ _) | (with_reducible assumption) | (with_reducible exact Fr.of_nil (by assumption)) | (with_reducible refine Fr.drew ?_) | (with_reducible refine Fr.drewN ?_ _) | (with_reducible refine Fr.alloc ?_ _) | (with_reducible refine Fr.set ?_ _ _ (by first | (intros; omega) | (simp; done) | (simp; omega))) | (with_reducible refine Fr.via ?_ (by assumption)) | (with_reducible refine Fr.comp ?_ (by assumption))))) (fun _ _ q => q)⟩
end Go.Proofs.Ytjcnbfiholcjkaa
