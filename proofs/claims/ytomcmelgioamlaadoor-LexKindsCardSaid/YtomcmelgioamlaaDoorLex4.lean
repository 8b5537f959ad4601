/-
  Contracts of package lex: a run's end; what is taken; a number. Conditions: sizes that memory bears, and the library's variables.
-/
import Derived.Test.YtomcmelgioamlaaDoorLex3
import Derived.Test.YtomcmelgioamlaaDoorNumParse3
import Derived.Test.YtomcmelgioamlaaDoorVia
import Derived.Deep.RegionHeld3
import Derived.Deep.DeepCutAuto
namespace Go.Proofs.YtomcmelgioamlaaDoor
set_option linter.unusedSimpArgs false
set_option linter.unusedVariables false
open Go.RowKit

/-- The library's variables, as blocks that no lexer lies in. -/
structure LibV (w : World) (b : Nat) : Prop where
  err : ErrV w
  len : ∃ m : Int, w.cell? ⟨0, 0, none⟩ = some (.int .i64 m)
  apart : 2 ≠ b ∧ 0 ≠ b
theorem LibV.fr {w w1 : World} {b : Nat} (h : LibV w b) (f : Fr (fun k => k = b) w w1) : LibV w1 b := by
  obtain ⟨⟨ev, h1, h2⟩, ⟨m, h3⟩, h4, h5⟩ := h
  exact ⟨⟨ev, f.cell h1 (fun q => h4 q), h2⟩, ⟨m, f.cell h3 (fun q => h5 q)⟩, h4, h5⟩
theorem LexAt.fr {w w1 : World} {b : Nat} {s : ByteArray} {a ln : Nat} (h : LexAt w b s a ln) (f : Fr Nil w w1) : LexAt w1 b s a ln := f.blk h (by simp [Nil])
theorem LexAt.lt {w : World} {b : Nat} {s : ByteArray} {a ln : Nat} (h : LexAt w b s a ln) : b < w.heap.size := Blk.lt h
section
variable (b : Nat) (s : ByteArray) (a ln : Nat) (w : World) (h : LexAt w b s a ln) (hs : s.size ≤ 100000) (ha : a ≤ s.size)
include h hs
theorem run_l (p : Nat) (hp : p ≤ s.size) :
    Calls Tryd.prog 28 #[.pointer (some ⟨b, 0, none⟩), .int .i64 p] w fun e w' => e = .returned (.int .i64 ((p + (runF (s.data.toList.drop p)).length : Nat) : Int)) ∧ w = w' := by
  have hw : Calls Tryd.prog 24 #[.pointer (some ⟨b, 0, none⟩), .int .i64 p, .func (.func 42) #[] #[]] w fun e w' => e = .returned (.int .i64 ((p + (runF (s.data.toList.drop p)).length : Nat) : Int)) ∧ w' = w := while_word b s a ln p w h (by omega) hp
  generalize ((p + (runF (s.data.toList.drop p)).length : Nat) : Int) = E at *
  have HW := Lib.hid hw
  clear hw h
  go_enter Tryd.func28, Tryd.ntmps28
  go_wp2_with (go_at_call 24; refine HW.out.mono ?_; rintro e w1 ⟨rfl, rfl⟩)
  go_ret
  exact ⟨rfl, rfl⟩
omit hs in
theorem take_l (to_ : Nat) (h1 : a ≤ to_) (h2 : to_ ≤ s.size) :
    Calls Tryd.prog 27 #[.pointer (some ⟨b, 0, none⟩), .int .i64 to_] w fun e w' => e = .returned (.string (s.extract a to_)) ∧ LexAt w' b s to_ ln ∧ Fr (fun k => k = b) w w' := by
  have c0 := h.cell 0
  have c1 := h.cell 1
  simp at c0 c1
  have i0 : (0 : Int) ≤ (a : Int) := by omega
  have i1 : (a : Int) ≤ (to_ : Int) := by omega
  have i2 : (to_ : Int) ≤ (s.size : Int) := by omega
  go_enter Tryd.func27, Tryd.ntmps27
  go_wp2
  go_quiet (fail)
  obtain ⟨V, hV⟩ : ∃ V, V = w.drewN nq := ⟨_, rfl⟩
  rw [← hV]
  have g1 : LexAt V b s a ln := by rw [hV]; exact Blk.drewN h _
  have f1 : Fr Nil w V := by rw [hV]; (repeat (first | (with_reducible exact Fr.refl _ _) | (with_reducible assumption) | (with_reducible exact Fr.of_nil (by assumption)) | (with_reducible refine Fr.drew ?_) | (with_reducible refine Fr.drewN ?_ _) | (with_reducible refine Fr.alloc ?_ _) | (with_reducible refine Fr.set ?_ _ _ (by first | (intros; omega) | (simp; done) | (simp; omega))) | (with_reducible refine Fr.via ?_ (by assumption)) | (with_reducible refine Fr.comp ?_ (by assumption))))
  clear hV c0 c1 h nq
  have c1 := g1.cell 1
  have x1 := g1.free 1
  have hl := g1.lt
  simp at c1
  go_wp2
  go_ret
  refine ⟨rfl, ?_, by (repeat (first | (with_reducible exact Fr.refl _ _) | (with_reducible assumption) | (with_reducible exact Fr.of_nil (by assumption)) | (with_reducible refine Fr.drew ?_) | (with_reducible refine Fr.drewN ?_ _) | (with_reducible refine Fr.alloc ?_ _) | (with_reducible refine Fr.set ?_ _ _ (by first | (intros; omega) | (simp; done) | (simp; omega))) | (with_reducible refine Fr.via ?_ (by assumption)) | (with_reducible refine Fr.comp ?_ (by assumption))))⟩
  unfold LexAt
  (unfold Blk; simp (disch := first | omega | (simp; done) | (simp; omega)) only [hp_drew, hp_drewN, hp_alloc, hp_other, hp_same, hp_new, upd_cells, Option.map_some, (g1).eq])
  simp
end
theorem trim_hash (X : List UInt8) : Lib.trimPrefix X [35] = hashOff X := by
  unfold Lib.trimPrefix Lib.hasPrefix hashOff
  cases X with
  | nil => rfl
  | cons c r =>
    by_cases h : c = 35
    · subst h; rfl
    · have e : List.isPrefixOf [35] (c :: r) = false := by
        simp [List.isPrefixOf]
        exact fun q => h q.symm
      rw [e, if_neg (by simp), if_neg (by simpa using h)]
set_option maxRecDepth 100000 in
set_option maxHeartbeats 1000000 in
theorem number_l (b : Nat) (s : ByteArray) (a ln : Nat) (w : World) (h : LexAt w b s a ln) (hL : LibV w b) (hs : s.size ≤ 100000) (to_ : Nat) (h1 : a < to_) (h2 : to_ ≤ s.size) :
    Calls Tryd.prog 31 #[.pointer (some ⟨b, 0, none⟩), .int .i64 to_] w fun e w' => e = .returned (.tuple #[tokV (numberF (s.extract a to_).data.toList ln).1, .int .i64 (numberF (s.extract a to_).data.toList ln).2]) ∧ LexAt w' b s to_ ln ∧ Fr (fun k => k = b) w w' := by
  obtain ⟨X, hX⟩ : ∃ X, s.extract a to_ = X := ⟨_, rfl⟩
  have hXs : X.size ≤ 100000 := by rw [← hX]; simp; omega
  have htk := fun w h => take_l b s a ln w h to_ (by omega) h2
  have htr := fun w => Tryd.strings_TrimPrefixB X ⟨#[35]⟩ w
  rw [hX] at htk ⊢
  simp only [trim_hash] at htr
  have hpl : (hashOff X.data.toList).length ≤ X.size := by
    unfold hashOff
    rw [← size_of X]
    split
    · rw [List.length_drop]; omega
    · exact Nat.le_refl _
  have hpa := fun w hE => parse_any ⟨(hashOff X.data.toList).toArray⟩ w (by simp [ByteArray.size]; omega) hE
  have hn := refV_num (hashOff X.data.toList)
  unfold numberF
  simp only [hn] at hpa
  have hbl := h.lt
  generalize numOf (hashOff X.data.toList) = q at *
  obtain ⟨f, bt, er⟩ := q
  simp only at hpa
  generalize (⟨(hashOff X.data.toList).toArray⟩ : ByteArray) = Y at *
  have hse := mk_bytes X
  simp only [tokV_mk, hse]
  have HTK := Lib.hid htk
  have HTR := Lib.hid htr
  have HPA := Lib.hid hpa
  have HL := Lib.hid hL
  clear htk htr hpa hn hpl hX hse hL h1 h2
  go_enter Tryd.func31, Tryd.ntmps31
  go_wp2_with fail
  obtain ⟨W, hW⟩ : ∃ W, W = w.alloc (.cells #[.int .i64 0, .string ⟨#[]⟩, .bool false, .int .u64 0, .int .i64 0] 35) := ⟨_, rfl⟩
  rw [← hW]
  have fW : Fr Nil w W := by rw [hW]; (repeat (first | (with_reducible exact Fr.refl _ _) | (with_reducible assumption) | (with_reducible exact Fr.of_nil (by assumption)) | (with_reducible refine Fr.drew ?_) | (with_reducible refine Fr.drewN ?_ _) | (with_reducible refine Fr.alloc ?_ _) | (with_reducible refine Fr.set ?_ _ _ (by first | (intros; omega) | (simp; done) | (simp; omega))) | (with_reducible refine Fr.via ?_ (by assumption)) | (with_reducible refine Fr.comp ?_ (by assumption))))
  have r1 : Blk W w.heap.size #[.int .i64 0, .string ⟨#[]⟩, .bool false, .int .u64 0, .int .i64 0] 35 := by rw [hW]; (unfold Blk; simp (disch := first | omega | (simp; done) | (simp; omega)) only [hp_drew, hp_drewN, hp_alloc, hp_other, hp_same, hp_new, upd_cells, Option.map_some])
  have g1 := h.fr fW
  clear hW h
  have c2 := g1.cell 2
  simp at c2
  have hbW := g1.lt
  go_upto_region 2 with fail
  go_cut [6] (fun s6 wx => ∃ g : Nat, s6 = .pointer (some ⟨g, 0, none⟩) ∧ Blk wx g #[.int .i64 3, .string X, .bool false, .int .u64 0, .int .i64 ln] 35 ∧ LexAt wx b s to_ ln ∧ Blk wx w.heap.size #[.int .i64 0, .string ⟨#[]⟩, .bool false, .int .u64 0, .int .i64 0] 35 ∧ w.heap.size < g ∧ Fr (fun k => k = b) w wx)
  case first =>
    go_region_with (first
      | (go_at_call 27; (with_reducible refine (HTK.out (W.alloc (.cells #[.int .i64 0, .string ⟨#[]⟩, .bool false, .int .u64 0, .int .i64 0] 35)).drew (g1.fr ((Fr.refl Nil W).alloc (.cells #[.int .i64 0, .string ⟨#[]⟩, .bool false, .int .u64 0, .int .i64 0] 35)).drew)).mono ?_); rintro e w2 ⟨rfl, g2, f2⟩; have f02 : Fr (fun k => k = b) w w2 := Fr.trans (by (repeat (first | (with_reducible exact Fr.refl _ _) | (with_reducible assumption) | (with_reducible exact Fr.of_nil (by assumption)) | (with_reducible refine Fr.drew ?_) | (with_reducible refine Fr.drewN ?_ _) | (with_reducible refine Fr.alloc ?_ _) | (with_reducible refine Fr.set ?_ _ _ (by first | (intros; omega) | (simp; done) | (simp; omega))) | (with_reducible refine Fr.via ?_ (by assumption)) | (with_reducible refine Fr.comp ?_ (by assumption))))) f2 (fun _ _ q => q); have hW1 := r1.lt; have hW2 : W.heap.size ≤ w2.heap.size := Nat.le_trans (by simp) f2.size; have r2 := f2.blk (b := w.heap.size) (c := #[.int .i64 0, .string ⟨#[]⟩, .bool false, .int .u64 0, .int .i64 0]) (t := 35) (by (unfold Blk; simp (disch := first | omega | (simp; done) | (simp; omega)) only [hp_drew, hp_drewN, hp_alloc, hp_other, hp_same, hp_new, upd_cells, Option.map_some, (r1).eq])) (fun q => by have q' : w.heap.size = b := q; omega); have q2 := g2.cell 2; simp at q2; have hb2 := g2.lt; have r3 := Fr.blk (w := (W.alloc (.cells #[.int .i64 0, .string ⟨#[]⟩, .bool false, .int .u64 0, .int .i64 0] 35)).drew) (w1 := w2) f2 (Blk.drew (Blk.new W #[.int .i64 0, .string ⟨#[]⟩, .bool false, .int .u64 0, .int .i64 0] 35)) (fun q => by have q' : W.heap.size = b := q; have := g1.lt; omega); have u0 := r3.cell 0; have u1 := r3.cell 1; have u2 := r3.cell 2; have u3 := r3.cell 3; have u4 := r3.cell 4; have v0 := r3.free 0; have v1 := r3.free 1; have v2 := r3.free 2; have v3 := r3.free 3; have v4 := r3.free 4; simp at u0 u1 u2 u3 u4; have hl3 := r3.lt)
      | (go_at_call 27; refine (HTK.out _ (g1.fr (by (repeat (first | (with_reducible exact Fr.refl _ _) | (with_reducible assumption) | (with_reducible exact Fr.of_nil (by assumption)) | (with_reducible refine Fr.drew ?_) | (with_reducible refine Fr.drewN ?_ _) | (with_reducible refine Fr.alloc ?_ _) | (with_reducible refine Fr.set ?_ _ _ (by first | (intros; omega) | (simp; done) | (simp; omega))) | (with_reducible refine Fr.via ?_ (by assumption)) | (with_reducible refine Fr.comp ?_ (by assumption))))))).mono ?_; rintro e w2 ⟨rfl, g2, f2⟩; have f02 : Fr (fun k => k = b) w w2 := Fr.trans (by (repeat (first | (with_reducible exact Fr.refl _ _) | (with_reducible assumption) | (with_reducible exact Fr.of_nil (by assumption)) | (with_reducible refine Fr.drew ?_) | (with_reducible refine Fr.drewN ?_ _) | (with_reducible refine Fr.alloc ?_ _) | (with_reducible refine Fr.set ?_ _ _ (by first | (intros; omega) | (simp; done) | (simp; omega))) | (with_reducible refine Fr.via ?_ (by assumption)) | (with_reducible refine Fr.comp ?_ (by assumption))))) f2 (fun _ _ q => q); have hW1 := r1.lt; have hW2 : W.heap.size ≤ w2.heap.size := Nat.le_trans (by simp) f2.size; have r2 := f2.blk (b := w.heap.size) (c := #[.int .i64 0, .string ⟨#[]⟩, .bool false, .int .u64 0, .int .i64 0]) (t := 35) (by (unfold Blk; simp (disch := first | omega | (simp; done) | (simp; omega)) only [hp_drew, hp_drewN, hp_alloc, hp_other, hp_same, hp_new, upd_cells, Option.map_some, (r1).eq])) (fun q => by have q' : w.heap.size = b := q; omega); have q2 := g2.cell 2; simp at q2; have hb2 := g2.lt))
    all_goals
      go_wp2_with fail
      go_meet
      refine ⟨_, rfl, ?_, ?_, ?_, ?_, ?_⟩
      · first
          | ((unfold Blk; simp (disch := first | omega | (simp; done) | (simp; omega)) only [hp_drew, hp_drewN, hp_alloc, hp_other, hp_same, hp_new, upd_cells, Option.map_some, (r3).eq]) <;> (simp; done))
          | ((unfold Blk; simp (disch := first | omega | (simp; done) | (simp; omega)) only [hp_drew, hp_drewN, hp_alloc, hp_other, hp_same, hp_new, upd_cells, Option.map_some, (r3).eq]); done)
          | ((unfold Blk; simp (disch := first | omega | (simp; done) | (simp; omega)) only [hp_drew, hp_drewN, hp_alloc, hp_other, hp_same, hp_new, upd_cells, Option.map_some]) <;> (simp; done))
          | ((unfold Blk; simp (disch := first | omega | (simp; done) | (simp; omega)) only [hp_drew, hp_drewN, hp_alloc, hp_other, hp_same, hp_new, upd_cells, Option.map_some]); done)
      · unfold LexAt
        first
          | ((unfold Blk; simp (disch := first | omega | (simp; done) | (simp; omega)) only [hp_drew, hp_drewN, hp_alloc, hp_other, hp_same, hp_new, upd_cells, Option.map_some, (g2).eq]); done)
          | ((unfold Blk; simp (disch := first | omega | (simp; done) | (simp; omega)) only [hp_drew, hp_drewN, hp_alloc, hp_other, hp_same, hp_new, upd_cells, Option.map_some, (g2).eq]) <;> (simp; done))
      · first
          | ((unfold Blk; simp (disch := first | omega | (simp; done) | (simp; omega)) only [hp_drew, hp_drewN, hp_alloc, hp_other, hp_same, hp_new, upd_cells, Option.map_some, (r2).eq]); done)
          | ((unfold Blk; simp (disch := first | omega | (simp; done) | (simp; omega)) only [hp_drew, hp_drewN, hp_alloc, hp_other, hp_same, hp_new, upd_cells, Option.map_some, (r2).eq]) <;> (simp; done))
      · omega
      · (repeat (first | (with_reducible exact Fr.refl _ _) | (with_reducible assumption) | (with_reducible exact Fr.of_nil (by assumption)) | (with_reducible refine Fr.drew ?_) | (with_reducible refine Fr.drewN ?_ _) | (with_reducible refine Fr.alloc ?_ _) | (with_reducible refine Fr.set ?_ _ _ (by first | (intros; omega) | (simp; done) | (simp; omega))) | (with_reducible refine Fr.via ?_ (by assumption)) | (with_reducible refine Fr.comp ?_ (by assumption))))
  case rest =>
    obtain ⟨g, rfl, k1, k2, k3, hg, f3⟩ := hcut
    obtain ⟨wx, rfl⟩ : ∃ V, V = wc := ⟨_, rfl⟩
    have hLx := HL.out.fr f3
    have hz := f3.size
    have hgl := k1.lt
    have hbg : b ≠ g := by omega
    have c0 := k1.cell 0
    have c1 := k1.cell 1
    have c2 := k1.cell 2
    have c3 := k1.cell 3
    have c4 := k1.cell 4
    have d2 := k1.free 2
    have d3 := k1.free 3
    simp at c0 c1 c2 c3 c4
    clear g1 r1 fW hbW
    go_wp2_with (first
      | (go_at_call 44; refine (HTR.out _).mono ?_; rintro e w4 ⟨rfl, rfl⟩)
      | fail)
    refine (HPA.out _ hLx.err).mono ?_
    rintro e w5 ⟨rfl, f5⟩
    have m1 := f5.blk k1 (by simp [Nil])
    have m2 := f5.blk k3 (by simp [Nil])
    have m3 := k2.fr f5
    have f35 : Fr (fun k => k = b) w w5 := f3.trans f5 (fun _ _ q => q.elim)
    have hz5 := f5.size
    clear c0 c1 c2 c3 c4 d2 d3 k1 k2 k3 f5 f3
    have c0 := m1.cell 0
    have c1 := m1.cell 1
    have c2 := m1.cell 2
    have c3 := m1.cell 3
    have c4 := m1.cell 4
    have d2 := m1.free 2
    have d3 := m1.free 3
    have q0 := m2.cell 0
    have q1 := m2.cell 1
    have q2 := m2.cell 2
    have q3 := m2.cell 3
    have q4 := m2.cell 4
    have y0 := m2.free 0
    have y1 := m2.free 1
    have y2 := m2.free 2
    have y3 := m2.free 3
    have y4 := m2.free 4
    simp at c0 c1 c2 c3 c4 q0 q1 q2 q3 q4
    have hg5 := m1.lt
    have hw5 := m2.lt
    have hn1 : g ≠ w.heap.size := by omega
    have hn2 : w.heap.size ≠ g := by omega
    go_wp2
    refine bodyPost_ret (v := .tuple #[.agg #[.int .i64 3, .string X, .bool f, .int .u64 (bt : Int), .int .i64 (ln : Int)], .int .i64 er]) (by simp [results, Tryd.results31, go_sem, *]) rfl ⟨rfl, ?_, ?_⟩
    · unfold LexAt
      (unfold Blk; simp (disch := first | omega | (simp; done) | (simp; omega)) only [hp_drew, hp_drewN, hp_alloc, hp_other, hp_same, hp_new, upd_cells, Option.map_some, (m3).eq])
    · (repeat (first | (with_reducible exact Fr.refl _ _) | (with_reducible assumption) | (with_reducible exact Fr.of_nil (by assumption)) | (with_reducible refine Fr.drew ?_) | (with_reducible refine Fr.drewN ?_ _) | (with_reducible refine Fr.alloc ?_ _) | (with_reducible refine Fr.set ?_ _ _ (by first | (intros; omega) | (simp; done) | (simp; omega))) | (with_reducible refine Fr.via ?_ (by assumption)) | (with_reducible refine Fr.comp ?_ (by assumption))))
end Go.Proofs.YtomcmelgioamlaaDoor
