/-
  Contract of the document's room (layer 3): Do, of what is given back; Do as one. No conditions but sizes.
-/
import Derived.Test.YtjcnbfiholcjkaaRef3b
namespace Go.Proofs.Ytjcnbfiholcjkaa
set_option linter.unusedSimpArgs false
set_option linter.unusedVariables false
open Go.RowKit Go.Shelf

section
variable (rb f p : Nat) (v : Value) (bs : List Bool) (L : List (Nat × Nat)) (w : World)
set_option maxRecDepth 100000 in
set_option maxHeartbeats 4000000 in
theorem rdo_out (h : RefAt w rb f v bs) (hl : bs.length = p) (hL : RefIs f bs p L) (hp : p ≤ 65536) (hf : f ≤ 65536) (kd a n : Int) (hkd : ¬ kd = 0) (ha : IntKind.i64.wrap a = a) (hw : withinB f p a n = false) :
    Calls Try.prog 11 #[.pointer (some ⟨rb, 0, none⟩), .agg #[.int .i64 kd, .int .i64 a, .int .i64 n]] w fun e w' => DoneAt w w' rb f p v e (0, 1, L) := by
  have hrb := h.blk.lt
  obtain ⟨av, cv, rfl⟩ := h.row.shape
  rw [hl] at h ⊢
  have C0 := h.blk.cell 0
  have C1 := h.blk.cell 1
  simp at C0 C1
  have H := Lib.hid (And.intro h (And.intro hl hL))
  have hk' : (kd == 0) = false := by simpa using hkd
  clear h hl hL hkd
  rw [IntKind.wrap_i64] at ha
  by_cases k1 : n < 1
  · have d1 := decide_eq_true k1
    clear ha hw
    go_enter Try.func11, Try.ntmps11
    go_wp2
    go_quiet (fail)
    go_wp2
    refine bodyPost_ret (v := .agg #[.int .i64 0, .int .i64 1]) (by simp [results, Try.results11, go_sem]) rfl ⟨bs, rfl, H.out.1.fr (S := Nil) (by (repeat (first | (with_reducible exact Fr.refl _ _) | (with_reducible assumption) | (with_reducible exact Fr.of_nil (by assumption)) | (with_reducible refine Fr.drew ?_) | (with_reducible refine Fr.drewN ?_ _) | (with_reducible refine Fr.alloc ?_ _) | (with_reducible refine Fr.set ?_ _ _ (by first | (intros; omega) | (simp; done) | (simp; omega))) | (with_reducible refine Fr.via ?_ (by assumption)) | (with_reducible refine Fr.comp ?_ (by assumption))))) (fun _ _ q => q), H.out.2.1, H.out.2.2, by (repeat (first | (with_reducible exact Fr.refl _ _) | (with_reducible assumption) | (with_reducible exact Fr.of_nil (by assumption)) | (with_reducible refine Fr.drew ?_) | (with_reducible refine Fr.drewN ?_ _) | (with_reducible refine Fr.alloc ?_ _) | (with_reducible refine Fr.set ?_ _ _ (by first | (intros; omega) | (simp; done) | (simp; omega))) | (with_reducible refine Fr.via ?_ (by assumption)) | (with_reducible refine Fr.comp ?_ (by assumption))))⟩
  · have d1 := decide_eq_false k1
    by_cases k2 : (p : Int) < n
    · have d2 := decide_eq_true k2
      clear ha hw
      go_enter Try.func11, Try.ntmps11
      go_wp2
      go_quiet (fail)
      go_wp2
      refine bodyPost_ret (v := .agg #[.int .i64 0, .int .i64 1]) (by simp [results, Try.results11, go_sem]) rfl ⟨bs, rfl, H.out.1.fr (S := Nil) (by (repeat (first | (with_reducible exact Fr.refl _ _) | (with_reducible assumption) | (with_reducible exact Fr.of_nil (by assumption)) | (with_reducible refine Fr.drew ?_) | (with_reducible refine Fr.drewN ?_ _) | (with_reducible refine Fr.alloc ?_ _) | (with_reducible refine Fr.set ?_ _ _ (by first | (intros; omega) | (simp; done) | (simp; omega))) | (with_reducible refine Fr.via ?_ (by assumption)) | (with_reducible refine Fr.comp ?_ (by assumption))))) (fun _ _ q => q), H.out.2.1, H.out.2.2, by (repeat (first | (with_reducible exact Fr.refl _ _) | (with_reducible assumption) | (with_reducible exact Fr.of_nil (by assumption)) | (with_reducible refine Fr.drew ?_) | (with_reducible refine Fr.drewN ?_ _) | (with_reducible refine Fr.alloc ?_ _) | (with_reducible refine Fr.set ?_ _ _ (by first | (intros; omega) | (simp; done) | (simp; omega))) | (with_reducible refine Fr.via ?_ (by assumption)) | (with_reducible refine Fr.comp ?_ (by assumption))))⟩
    · have d2 := decide_eq_false k2
      by_cases k3 : a < (f : Int)
      · have d3 := decide_eq_true k3
        clear ha hw
        go_enter Try.func11, Try.ntmps11
        go_wp2
        go_quiet (fail)
        go_wp2
        refine bodyPost_ret (v := .agg #[.int .i64 0, .int .i64 1]) (by simp [results, Try.results11, go_sem]) rfl ⟨bs, rfl, H.out.1.fr (S := Nil) (by (repeat (first | (with_reducible exact Fr.refl _ _) | (with_reducible assumption) | (with_reducible exact Fr.of_nil (by assumption)) | (with_reducible refine Fr.drew ?_) | (with_reducible refine Fr.drewN ?_ _) | (with_reducible refine Fr.alloc ?_ _) | (with_reducible refine Fr.set ?_ _ _ (by first | (intros; omega) | (simp; done) | (simp; omega))) | (with_reducible refine Fr.via ?_ (by assumption)) | (with_reducible refine Fr.comp ?_ (by assumption))))) (fun _ _ q => q), H.out.2.1, H.out.2.2, by (repeat (first | (with_reducible exact Fr.refl _ _) | (with_reducible assumption) | (with_reducible exact Fr.of_nil (by assumption)) | (with_reducible refine Fr.drew ?_) | (with_reducible refine Fr.drewN ?_ _) | (with_reducible refine Fr.alloc ?_ _) | (with_reducible refine Fr.set ?_ _ _ (by first | (intros; omega) | (simp; done) | (simp; omega))) | (with_reducible refine Fr.via ?_ (by assumption)) | (with_reducible refine Fr.comp ?_ (by assumption))))⟩
      · have d3 := decide_eq_false k3
        have w1 : IntKind.i64.wrap (a - (f : Int)) = a - f := by rw [IntKind.wrap_i64]; omega
        have w2 : IntKind.i64.wrap ((p : Int) - n) = p - n := by rw [IntKind.wrap_i64]; omega
        have k4 : (p : Int) - n < a - f := by
          by_cases q : (p : Int) - n < a - f
          · exact q
          · simp [withinB] at hw
            omega
        have d4 := decide_eq_true k4
        clear ha hw
        go_enter Try.func11, Try.ntmps11
        go_wp2
        go_quiet (fail)
        go_wp2
        refine bodyPost_ret (v := .agg #[.int .i64 0, .int .i64 1]) (by simp [results, Try.results11, go_sem]) rfl ⟨bs, rfl, H.out.1.fr (S := Nil) (by (repeat (first | (with_reducible exact Fr.refl _ _) | (with_reducible assumption) | (with_reducible exact Fr.of_nil (by assumption)) | (with_reducible refine Fr.drew ?_) | (with_reducible refine Fr.drewN ?_ _) | (with_reducible refine Fr.alloc ?_ _) | (with_reducible refine Fr.set ?_ _ _ (by first | (intros; omega) | (simp; done) | (simp; omega))) | (with_reducible refine Fr.via ?_ (by assumption)) | (with_reducible refine Fr.comp ?_ (by assumption))))) (fun _ _ q => q), H.out.2.1, H.out.2.2, by (repeat (first | (with_reducible exact Fr.refl _ _) | (with_reducible assumption) | (with_reducible exact Fr.of_nil (by assumption)) | (with_reducible refine Fr.drew ?_) | (with_reducible refine Fr.drewN ?_ _) | (with_reducible refine Fr.alloc ?_ _) | (with_reducible refine Fr.set ?_ _ _ (by first | (intros; omega) | (simp; done) | (simp; omega))) | (with_reducible refine Fr.via ?_ (by assumption)) | (with_reducible refine Fr.comp ?_ (by assumption))))⟩
set_option maxRecDepth 100000 in
set_option maxHeartbeats 4000000 in
theorem rdo_in (h : RefAt w rb f v bs) (hl : bs.length = p) (hL : RefIs f bs p L) (hp : p ≤ 65536) (hf : f ≤ 65536) (kd : Int) (a n : Nat) (hkd : ¬ kd = 0) (h1 : 1 ≤ n) (h2 : f ≤ a) (h3 : a + n ≤ f + p) :
    Calls Try.prog 11 #[.pointer (some ⟨rb, 0, none⟩), .agg #[.int .i64 kd, .int .i64 (a : Int), .int .i64 (n : Int)]] w fun e w' => DoneAt w w' rb f p v e (if L.any (meetB a n) then (0, 5, L) else (0, 0, giveL a n L)) := by
  have hrb := h.blk.lt
  obtain ⟨o, rfl⟩ : ∃ o, a = f + o := ⟨a - f, by omega⟩
  obtain ⟨gv, cv, rfl⟩ := h.row.form (by omega)
  have C0 := h.blk.cell 0
  have C1 := h.blk.cell 1
  simp at C0 C1
  rw [hl] at C1 ⊢
  have hgv := h.row.own (k := gv) rfl
  have hown : Hid (∀ k, TS rb (Value.slice (some ⟨gv, 0, none⟩) p cv) k → rb ≤ k ∧ k < w.heap.size) := fun k q => by
    rcases q with q | q
    · omega
    · have : gv = k := by simpa [Value.ownBlock] using q
      omega
  rw [hl] at h
  have H := Lib.hid (And.intro h (And.intro hl hL))
  have hk' : (kd == 0) = false := by simpa using hkd
  have e1 : ¬ (n : Int) < 1 := by omega
  have e2 : ¬ (p : Int) < (n : Int) := by omega
  have e3 : ¬ ((f + o : Nat) : Int) < (f : Int) := by omega
  obtain ⟨A, hA⟩ : ∃ A, f + o = A := ⟨_, rfl⟩
  rw [hA] at e3 ⊢
  have w1 : IntKind.i64.wrap ((A : Int) - (f : Int)) = (o : Int) := by rw [IntKind.wrap_i64]; omega
  have w2 : IntKind.i64.wrap ((p : Int) - (n : Int)) = (p : Int) - (n : Int) := by rw [IntKind.wrap_i64]; omega
  have e4 : ¬ (p : Int) - (n : Int) < (o : Int) := by omega
  have d1 := decide_eq_false e1
  have d2 := decide_eq_false e2
  have d3 := decide_eq_false e3
  have d4 := decide_eq_false e4
  have u1 : decide (n < 1) = false := decide_eq_false (by omega)
  have u2 : decide (p < n) = false := decide_eq_false (by omega)
  have u3 : decide (A < f) = false := decide_eq_false (by omega)
  have HA := Lib.hid hA
  clear h hl hL hkd
  obtain ⟨T, hT⟩ : ∃ T, (if L.any (meetB A n) then (0, 5, L) else (0, 0, giveL A n L) : Nat × Nat × List (Nat × Nat)) = T := ⟨_, rfl⟩
  rw [hT]
  have HTE := Lib.hid hT
  clear hT
  go_enter Try.func11, Try.ntmps11
  go_wp2
  go_quiet (fail)
  go_wp2_with fail
  go_loopg [8] n (fun g iv wr => ∃ k : Nat, g = n - k ∧ k ≤ n ∧ iv = .int .i64 k ∧ Hid (∀ j, j < k → bs.getD (o + j) false = false) ∧ Blk wr w.heap.size #[.int .i64 kd, .int .i64 (A : Int), .int .i64 (n : Int)] 35 ∧ Blk wr (w.heap.size + 1) #[.int .i64 0, .int .i64 0] 32 ∧ Fr Nil w wr)
  case atStart => exact ⟨0, rfl, by omega, rfl, Lib.hid (fun j q => absurd q (by omega)), by (unfold Blk; simp (disch := first | omega | (simp; done) | (simp; omega)) only [hp_drew, hp_drewN, hp_alloc, hp_other, hp_same, hp_new, upd_cells, Option.map_some]), by (unfold Blk; simp (disch := first | omega | (simp; done) | (simp; omega)) only [hp_drew, hp_drewN, hp_alloc, hp_other, hp_same, hp_new, upd_cells, Option.map_some]), by (repeat (first | (with_reducible exact Fr.refl _ _) | (with_reducible assumption) | (with_reducible exact Fr.of_nil (by assumption)) | (with_reducible refine Fr.drew ?_) | (with_reducible refine Fr.drewN ?_ _) | (with_reducible refine Fr.alloc ?_ _) | (with_reducible refine Fr.set ?_ _ _ (by first | (intros; omega) | (simp; done) | (simp; omega))) | (with_reducible refine Fr.via ?_ (by assumption)) | (with_reducible refine Fr.comp ?_ (by assumption))))⟩
  case round =>
    obtain ⟨k, rfl, hk, rfl, HB, g3, g4, hw⟩ := hrel
    have u1 := g3.cell 1
    have u2 := g3.cell 2
    simp at u1 u2
    have y0 := g4.free 0
    have y1 := g4.free 1
    have z0 := g4.cell 0
    have z1 := g4.cell 1
    simp at z0 z1
    have lt3 := g3.lt
    have lt4 := g4.lt
    have c0 := hw.cell C0 (fun q => q)
    have c1 := hw.cell C1 (fun q => q)
    have lt1 := hw.lt hrb
    by_cases hlt : k < n
    · have i1 : (k : Int) < (n : Int) := by omega
      have wo : IntKind.i64.wrap ((o : Int) + (k : Int)) = (o : Int) + (k : Int) := by rw [IntKind.wrap_i64]; omega
      have htn : ((o : Int) + (k : Int)).toNat = o + k := by omega
      have j2 : (0 : Int) ≤ (o : Int) + (k : Int) := by omega
      have j3 : (o : Int) + (k : Int) < (p : Int) := by omega
      have b3 := (H.out.1.row.kept hw (fun _ _ q => q)).cellAt H.out.2.1.symm (o + k) (by have := H.out.2.1; omega)
      have lt6 : gv < wr.heap.size := World.block_lt_of_cell? wr _ b3
      cases hb : bs.getD (o + k) false with
      | true =>
        rw [hb] at b3
        have hm : L.any (meetB A n) = true := (any_meet H.out.2.2.1 h1).2 ⟨A + k, by omega, by omega, (H.out.2.2.2 _).2 ⟨by have := HA.out; omega, by have := HA.out; omega, by rw [show A + k - f = o + k by have := HA.out; omega]; exact hb⟩⟩
        have HM := Lib.hid hm
        have HW := Lib.hid hw
        clear hm hb hw
        go_wp2
        go_quiet (fail)
        go_wp2
        refine bodyPost_ret (v := .agg #[.int .i64 0, .int .i64 5]) (by simp [results, Try.results11, go_sem, z0, z1]) rfl ?_
        rw [← HTE.out, HM.out, if_pos rfl]
        refine ⟨bs, rfl, H.out.1.fr (S := fun b => b = w.heap.size + 1) (HW.out.of_nil.comp (by (repeat (first | (with_reducible exact Fr.refl _ _) | (with_reducible assumption) | (with_reducible exact Fr.of_nil (by assumption)) | (with_reducible refine Fr.drew ?_) | (with_reducible refine Fr.drewN ?_ _) | (with_reducible refine Fr.alloc ?_ _) | (with_reducible refine Fr.set ?_ _ _ (by first | (intros; omega) | (simp; done) | (simp; omega))) | (with_reducible refine Fr.via ?_ (by assumption)) | (with_reducible refine Fr.comp ?_ (by assumption)))))) (fun q hq e => by have := (hown.out _ hq).2; omega), H.out.2.1, H.out.2.2, ?_⟩
        exact HW.out.of_nil.trans (S' := fun b => b = w.heap.size + 1) (by (repeat (first | (with_reducible exact Fr.refl _ _) | (with_reducible assumption) | (with_reducible exact Fr.of_nil (by assumption)) | (with_reducible refine Fr.drew ?_) | (with_reducible refine Fr.drewN ?_ _) | (with_reducible refine Fr.alloc ?_ _) | (with_reducible refine Fr.set ?_ _ _ (by first | (intros; omega) | (simp; done) | (simp; omega))) | (with_reducible refine Fr.via ?_ (by assumption)) | (with_reducible refine Fr.comp ?_ (by assumption))))) (fun q hq e => by omega)
      | false =>
        rw [hb] at b3
        have HC := Lib.hid hb
        clear hb
        go_wp2
        go_quiet (fail)
        go_wp2
        go_roundg (n - (k + 1))
        case rel =>
          refine ⟨k + 1, rfl, by omega, by go_num, Lib.hid (fun j hjk => ?_), by first | exact g3 | exact g3.drew | exact g3.drewN _, by first | exact g4 | exact g4.drew | exact g4.drewN _, by (repeat (first | (with_reducible exact Fr.refl _ _) | (with_reducible assumption) | (with_reducible exact Fr.of_nil (by assumption)) | (with_reducible refine Fr.drew ?_) | (with_reducible refine Fr.drewN ?_ _) | (with_reducible refine Fr.alloc ?_ _) | (with_reducible refine Fr.set ?_ _ _ (by first | (intros; omega) | (simp; done) | (simp; omega))) | (with_reducible refine Fr.via ?_ (by assumption)) | (with_reducible refine Fr.comp ?_ (by assumption))))⟩
          rcases Nat.lt_or_ge j k with q | q
          · exact HB.out j q
          · obtain rfl : j = k := by omega
            exact HC.out
        case measure => omega
    · obtain rfl : k = n := by omega
      have i1 : ¬ ((k : Int) < (k : Int)) := by omega
      obtain ⟨hG, hno⟩ := H.out.2.2.give (n := k) (a := A) H.out.2.1 h1 (by omega) (by omega) (fun j hj => by rw [show A - f + j = o + j by have := HA.out; omega]; exact HB.out j hj)
      rw [show A - f = o by have := HA.out; omega] at hG
      have hm : L.any (meetB A k) = false := by
        cases hc : L.any (meetB A k) with
        | false => rfl
        | true =>
          obtain ⟨q, q1, q2, q3⟩ := (any_meet H.out.2.2.1 h1).1 hc
          exact (hno q q1 q2 q3).elim
      have HM := Lib.hid hm
      have HG := Lib.hid hG
      have HG3 := Lib.hid (And.intro g3 (And.intro g4 hw))
      clear hm hG hno hw
      go_wp2_with fail
      go_loopg [9] k (fun g iv wq => ∃ k2 : Nat, g = k - k2 ∧ k2 ≤ k ∧ iv = .int .i64 k2 ∧ RefAt wq rb f (.slice (some ⟨gv, 0, none⟩) p cv) (setR bs o true k2) ∧ Fr (TS rb (.slice (some ⟨gv, 0, none⟩) p cv)) wr wq)
      case atStart => exact ⟨0, rfl, by omega, rfl, H.out.1.fr (S := Nil) HG3.out.2.2 (fun _ _ q => q), by (repeat (first | (with_reducible exact Fr.refl _ _) | (with_reducible assumption) | (with_reducible exact Fr.of_nil (by assumption)) | (with_reducible refine Fr.drew ?_) | (with_reducible refine Fr.drewN ?_ _) | (with_reducible refine Fr.alloc ?_ _) | (with_reducible refine Fr.set ?_ _ _ (by first | (intros; omega) | (simp; done) | (simp; omega))) | (with_reducible refine Fr.via ?_ (by assumption)) | (with_reducible refine Fr.comp ?_ (by assumption))))⟩
      case round =>
        obtain ⟨k2, rfl, hk2, rfl, hR, hq⟩ := hrel
        have s4 := hq.blk HG3.out.2.1 (fun q => by have := (hown.out _ q).2; omega)
        have s3 := hq.blk HG3.out.1 (fun q => by have := (hown.out _ q).2; omega)
        have r1 := s3.cell 1
        have r2 := s3.cell 2
        simp at r1 r2
        have s0 := s4.cell 0
        have s1 := s4.cell 1
        simp at s0 s1
        have sy0 := s4.free 0
        have sy1 := s4.free 1
        have slt3 := s3.lt
        have slt4 := s4.lt
        have b0 := hR.blk.cell 0
        have b1 := hR.blk.cell 1
        simp at b0 b1
        have slt1 := hR.blk.lt
        by_cases hlt2 : k2 < k
        · have j1 : (k2 : Int) < (k : Int) := by omega
          have wo : IntKind.i64.wrap ((o : Int) + (k2 : Int)) = (o : Int) + (k2 : Int) := by rw [IntKind.wrap_i64]; omega
          have htn : ((o : Int) + (k2 : Int)).toNat = o + k2 := by omega
          have j2 : (0 : Int) ≤ (o : Int) + (k2 : Int) := by omega
          have j3 : (o : Int) + (k2 : Int) < (p : Int) := by omega
          have hlen : (setR bs o true k2).length = p := by rw [setR_len]; exact H.out.2.1
          have b3 := hR.row.cellAt hlen.symm (o + k2) (by omega)
          have b4 := hR.row.free (o + k2)
          have slt6 : gv < wr.heap.size := World.block_lt_of_cell? wr _ b3
          have HR := Lib.hid (And.intro hR hlen)
          have HQ := Lib.hid hq
          obtain ⟨bv, hbv⟩ : ∃ bv, (setR bs o true k2).getD (o + k2) false = bv := ⟨_, rfl⟩
          rw [hbv] at b3
          clear hR hlen hbv hq
          go_wp2
          go_region
          all_goals
            go_wp2
            go_roundg (k - (k2 + 1))
            case rel =>
              refine ⟨k2 + 1, rfl, by omega, by go_num, ?_, ?_⟩
              · have := HR.out.1.store (k := o + k2) true HR.out.2.symm
                first | exact this | exact RefAt.fr (S := Nil) this (by (repeat (first | (with_reducible exact Fr.refl _ _) | (with_reducible assumption) | (with_reducible exact Fr.of_nil (by assumption)) | (with_reducible refine Fr.drew ?_) | (with_reducible refine Fr.drewN ?_ _) | (with_reducible refine Fr.alloc ?_ _) | (with_reducible refine Fr.set ?_ _ _ (by first | (intros; omega) | (simp; done) | (simp; omega))) | (with_reducible refine Fr.via ?_ (by assumption)) | (with_reducible refine Fr.comp ?_ (by assumption))))) (fun _ _ q => q)
              · exact HQ.out.trans (S' := TS rb (.slice (some ⟨gv, 0, none⟩) p cv)) (by first | exact (Fr.refl _ _).set _ _ (fun _ => .inr rfl) | exact (Fr.drew (Fr.refl _ _)).set _ _ (fun _ => .inr rfl) | exact ((Fr.refl _ _).set _ _ (fun _ => .inr rfl)).drew) (fun _ _ q => q)
            case measure => omega
        · obtain rfl : k2 = k := by omega
          have j1 : ¬ ((k2 : Int) < (k2 : Int)) := by omega
          have HR := Lib.hid hR
          have HQ := Lib.hid (HG3.out.2.2.of_nil.comp hq)
          have hgv4 : gv ≠ w.heap.size + 1 := by omega
          clear hR hq
          go_wp2
          refine bodyPost_ret (v := .agg #[.int .i64 0, .int .i64 0]) (by simp [results, Try.results11, go_sem, s0, s1]) rfl ?_
          rw [← HTE.out, HM.out, if_neg (by simp)]
          refine ⟨_, rfl, HR.out.fr (S := fun b => b = w.heap.size + 1) (by (repeat (first | (with_reducible exact Fr.refl _ _) | (with_reducible assumption) | (with_reducible exact Fr.of_nil (by assumption)) | (with_reducible refine Fr.drew ?_) | (with_reducible refine Fr.drewN ?_ _) | (with_reducible refine Fr.alloc ?_ _) | (with_reducible refine Fr.set ?_ _ _ (by first | (intros; omega) | (simp; done) | (simp; omega))) | (with_reducible refine Fr.via ?_ (by assumption)) | (with_reducible refine Fr.comp ?_ (by assumption))))) (fun q hq e => by have := (hown.out _ hq).2; omega), by rw [setR_len]; exact H.out.2.1, HG.out, ?_⟩
          exact HQ.out.trans (S' := fun b => b = w.heap.size + 1) (by (repeat (first | (with_reducible exact Fr.refl _ _) | (with_reducible assumption) | (with_reducible exact Fr.of_nil (by assumption)) | (with_reducible refine Fr.drew ?_) | (with_reducible refine Fr.drewN ?_ _) | (with_reducible refine Fr.alloc ?_ _) | (with_reducible refine Fr.set ?_ _ _ (by first | (intros; omega) | (simp; done) | (simp; omega))) | (with_reducible refine Fr.via ?_ (by assumption)) | (with_reducible refine Fr.comp ?_ (by assumption))))) (fun q hq e => by omega)
theorem rdo_any (h : RefAt w rb f v bs) (hl : bs.length = p) (hL : RefIs f bs p L) (hp : p ≤ 65536) (hf : f ≤ 65536) (x : Act3) (hx : IntKind.i64.wrap x.at_ = x.at_) :
    Calls Try.prog 11 #[.pointer (some ⟨rb, 0, none⟩), .agg #[.int .i64 x.kind, .int .i64 x.at_, .int .i64 x.word]] w fun e w' => DoneAt w w' rb f p v e (doR f p x L) := by
  obtain ⟨kd, a, n⟩ := x
  unfold doR
  simp only [] at hx ⊢
  by_cases hk : kd = 0
  · subst hk
    rw [if_pos rfl]
    exact rdo_take rb f p v bs L w h hl hL hp hf a n
  · rw [if_neg hk]
    unfold giveR
    cases hw : withinB f p a n with
    | false => exact rdo_out rb f p v bs L w h hl hL hp hf kd a n hk hx hw
    | true =>
      obtain ⟨a, n, rfl, rfl, h1, h2, h3⟩ := within_nat hw
      have := rdo_in rb f p v bs L w h hl hL hp hf kd a n hk h1 h2 h3
      rw [if_pos rfl, Int.toNat_natCast, Int.toNat_natCast]
      cases hm : L.any (meetB a n) with
      | true => rw [hm] at this; exact this
      | false => rw [hm] at this; exact this
end
end Go.Proofs.Ytjcnbfiholcjkaa
