/-
  The law NumTexts. No conditions but the tables of Go's library, and that the library's error has a value.
-/
import Derived.Test.YtcadbidccmiflaaDoorL01a
import Derived.Test.YtcadbidccmiflaaDoorNumParse3
import Derived.Test.YtcadbidccmiflaaDoorRef01p
import Derived.Test.YtcadbidccmiflaaDoorVia
import Derived.Deep.RegionHeld3
namespace Go.Proofs.YtcadbidccmiflaaDoor
set_option linter.unusedSimpArgs false
set_option linter.unusedVariables false
open Go.RowKit

theorem parseV_form2 (m : Bool) (d s : List UInt8) : ∃ (f : Bool) (b : Nat) (e : Int), parseV m d s = .tuple #[.agg #[.bool f, .int .u64 (b : Int)], .int .i64 e] := by
  unfold parseV resV
  split
  · split
    · exact ⟨_, 0, _, rfl⟩
    · split
      · exact ⟨_, _, _, rfl⟩
      · split
        · exact ⟨_, 0, _, rfl⟩
        · exact ⟨_, _, _, rfl⟩
  · exact ⟨_, 0, _, rfl⟩
theorem refV_form (s : List UInt8) : ∃ (f : Bool) (b : Nat) (e : Int), refV s = .tuple #[.agg #[.bool f, .int .u64 (b : Int)], .int .i64 e] := by
  unfold refV
  split
  · unfold bitsV
    split
    · exact ⟨_, _, _, rfl⟩
    · exact ⟨_, 0, _, rfl⟩
  · split
    · exact parseV_form2 _ _ _
    · exact parseV_form2 _ _ _
theorem texts_long (f : Bool) (x : Nat) (s : ByteArray) (w : World) (hT : Tabs w) (hs : 1000 < s.size) :
    Calls Tryd.prog 10 #[.agg #[.bool f, .int .u64 (x : Int)], .string s] w fun e w' => e = .returned (.bool true) ∧ Fr Nil w w' := by
  have c1 : (1000 : Int) < (s.size : Int) := by omega
  go_enter Tryd.func10, Tryd.ntmps10
  go_wp2_with fail
  refine (awake_any _ (hT.fr (by (repeat (first | (with_reducible exact Fr.refl _ _) | (with_reducible assumption) | (with_reducible exact Fr.of_nil (by assumption)) | (with_reducible refine Fr.drew ?_) | (with_reducible refine Fr.drewN ?_ _) | (with_reducible refine Fr.alloc ?_ _) | (with_reducible refine Fr.set ?_ _ _ (by first | (intros; omega) | (simp; done) | (simp; omega))) | (with_reducible refine Fr.via ?_ (by assumption)) | (with_reducible refine Fr.comp ?_ (by assumption))))))).mono ?_
  rintro e w1 ⟨rfl, f1⟩
  go_wp2
  go_ret
  exact ⟨rfl, by (repeat (first | (with_reducible exact Fr.refl _ _) | (with_reducible assumption) | (with_reducible exact Fr.of_nil (by assumption)) | (with_reducible refine Fr.drew ?_) | (with_reducible refine Fr.drewN ?_ _) | (with_reducible refine Fr.alloc ?_ _) | (with_reducible refine Fr.set ?_ _ _ (by first | (intros; omega) | (simp; done) | (simp; omega))) | (with_reducible refine Fr.via ?_ (by assumption)) | (with_reducible refine Fr.comp ?_ (by assumption))))⟩
set_option maxRecDepth 100000 in
theorem texts_true (x : Nat) (s : ByteArray) (w : World) (hT : Tabs w) (hE : ErrV w) (hs : s.size ≤ 1000) (hx : x < 18446744073709551616) :
    Calls Tryd.prog 10 #[.agg #[.bool true, .int .u64 (x : Int)], .string s] w fun e w' => e = .returned (.bool true) ∧ Fr Nil w w' := by
  have c1 : ¬ (1000 : Int) < (s.size : Int) := by omega
  obtain ⟨rf, rb, re, hr⟩ := refV_form s.data.toList
  have HR := Lib.hid hr
  have HS := Lib.hid hs
  have HX := Lib.hid hx
  obtain ⟨P, hP⟩ : ∃ P : List UInt8, printF x = P := ⟨_, rfl⟩
  have HP := Lib.hid hP
  clear hr hs hx hP
  go_enter Tryd.func10, Tryd.ntmps10
  go_wp2_with fail
  refine (awake_any _ (hT.fr (by (repeat (first | (with_reducible exact Fr.refl _ _) | (with_reducible assumption) | (with_reducible exact Fr.of_nil (by assumption)) | (with_reducible refine Fr.drew ?_) | (with_reducible refine Fr.drewN ?_ _) | (with_reducible refine Fr.alloc ?_ _) | (with_reducible refine Fr.set ?_ _ _ (by first | (intros; omega) | (simp; done) | (simp; omega))) | (with_reducible refine Fr.via ?_ (by assumption)) | (with_reducible refine Fr.comp ?_ (by assumption))))))).mono ?_
  rintro e w1 ⟨rfl, f1⟩
  obtain ⟨_, _, _⟩ := f1.at (w.heap.size) (by first | assumption | omega | (simp; done) | (simp; omega))
  go_wp2_with fail
  refine (parse_any s _ HS.out (hE.fr (by (repeat (first | (with_reducible exact Fr.refl _ _) | (with_reducible assumption) | (with_reducible exact Fr.of_nil (by assumption)) | (with_reducible refine Fr.drew ?_) | (with_reducible refine Fr.drewN ?_ _) | (with_reducible refine Fr.alloc ?_ _) | (with_reducible refine Fr.set ?_ _ _ (by first | (intros; omega) | (simp; done) | (simp; omega))) | (with_reducible refine Fr.via ?_ (by assumption)) | (with_reducible refine Fr.comp ?_ (by assumption))))))).mono ?_
  rw [HR.out]
  rintro e w2 ⟨rfl, f2⟩
  obtain ⟨_, _, _⟩ := f2.at (w.heap.size) (by first | assumption | omega | (simp; done) | (simp; omega))
  go_wp2_with fail
  refine (rparse_any s _ (by have := HS.out; omega)).mono ?_
  rw [HR.out]
  rintro e w3 ⟨rfl, f3⟩
  obtain ⟨_, _, _⟩ := f3.at (w.heap.size) (by first | assumption | omega | (simp; done) | (simp; omega)); obtain ⟨_, _, _⟩ := f3.at (w2.heap.size) (by first | assumption | omega | (simp; done) | (simp; omega))
  go_wp2_with fail
  obtain ⟨W, hW⟩ : ∃ V, V = w3.alloc (.cells #[.bool rf, .int .u64 (rb : Int)] 25) := ⟨_, rfl⟩
  rw [← hW]
  have F0 : Fr Nil w W := by rw [hW]; (repeat (first | (with_reducible exact Fr.refl _ _) | (with_reducible assumption) | (with_reducible exact Fr.of_nil (by assumption)) | (with_reducible refine Fr.drew ?_) | (with_reducible refine Fr.drewN ?_ _) | (with_reducible refine Fr.alloc ?_ _) | (with_reducible refine Fr.set ?_ _ _ (by first | (intros; omega) | (simp; done) | (simp; omega))) | (with_reducible refine Fr.via ?_ (by assumption)) | (with_reducible refine Fr.comp ?_ (by assumption))))
  have G1 : Fr Nil (w.alloc (.cells #[.bool true, .int .u64 (x : Int)] 25)) W := by rw [hW]; (repeat (first | (with_reducible exact Fr.refl _ _) | (with_reducible assumption) | (with_reducible exact Fr.of_nil (by assumption)) | (with_reducible refine Fr.drew ?_) | (with_reducible refine Fr.drewN ?_ _) | (with_reducible refine Fr.alloc ?_ _) | (with_reducible refine Fr.set ?_ _ _ (by first | (intros; omega) | (simp; done) | (simp; omega))) | (with_reducible refine Fr.via ?_ (by assumption)) | (with_reducible refine Fr.comp ?_ (by assumption))))
  have G2 : Fr Nil (w2.alloc (.cells #[.bool rf, .int .u64 (rb : Int)] 25)) W := by rw [hW]; (repeat (first | (with_reducible exact Fr.refl _ _) | (with_reducible assumption) | (with_reducible exact Fr.of_nil (by assumption)) | (with_reducible refine Fr.drew ?_) | (with_reducible refine Fr.drewN ?_ _) | (with_reducible refine Fr.alloc ?_ _) | (with_reducible refine Fr.set ?_ _ _ (by first | (intros; omega) | (simp; done) | (simp; omega))) | (with_reducible refine Fr.via ?_ (by assumption)) | (with_reducible refine Fr.comp ?_ (by assumption))))
  have b1 := G1.new
  have b2 := G2.new
  have b3 : Blk W w3.heap.size #[.bool rf, .int .u64 (rb : Int)] 25 := by rw [hW]; (unfold Blk; simp (disch := first | omega | (simp; done) | (simp; omega)) only [hp_drew, hp_drewN, hp_alloc, hp_other, hp_same, hp_new, upd_cells, Option.map_some])
  have p1 := b1.cell 0
  have p2 := b1.cell 1
  have p3 := b2.cell 0
  have p4 := b2.cell 1
  have p5 := b3.cell 0
  have p6 := b3.cell 1
  simp at p1 p2 p3 p4 p5 p6
  clear hW G1 G2
  apply wp_via (F := fun V => Fr Nil w V)
  · go_region_held3 (fun w' => w'.cell? ⟨w.heap.size, 0, none⟩ = some (.bool true) ∧ w'.cell? ⟨w.heap.size, 1, none⟩ = some (.int .u64 (x : Int)) ∧ w'.cell? ⟨w2.heap.size, 0, none⟩ = some (.bool rf) ∧ w'.cell? ⟨w2.heap.size, 1, none⟩ = some (.int .u64 (rb : Int)) ∧ w'.cell? ⟨w3.heap.size, 0, none⟩ = some (.bool rf) ∧ w'.cell? ⟨w3.heap.size, 1, none⟩ = some (.int .u64 (rb : Int))) (first | go_keep | exact ⟨p1, p2, p3, p4, p5, p6⟩ | exact ⟨q1, q2, q3, q4, q5, q6⟩ | exact ⟨r1, r2, r3, r4, r5, r6⟩) (first
      | (go_at_call 22; refine (print_flt x _ HX.out (hT.fr (by (repeat (first | (with_reducible exact Fr.refl _ _) | (with_reducible assumption) | (with_reducible exact Fr.of_nil (by assumption)) | (with_reducible refine Fr.drew ?_) | (with_reducible refine Fr.drewN ?_ _) | (with_reducible refine Fr.alloc ?_ _) | (with_reducible refine Fr.set ?_ _ _ (by first | (intros; omega) | (simp; done) | (simp; omega))) | (with_reducible refine Fr.via ?_ (by assumption)) | (with_reducible refine Fr.comp ?_ (by assumption))))))).mono ?_; rw [HP.out]; rintro e wa ⟨rfl, fa⟩; have d1 := fa.blk b1.drew (fun q => q); have d2 := fa.blk b2.drew (fun q => q); have d3 := fa.blk b3.drew (fun q => q); have q1 := d1.cell 0; have q2 := d1.cell 1; have q3 := d2.cell 0; have q4 := d2.cell 1; have q5 := d3.cell 0; have q6 := d3.cell 1; simp at q1 q2 q3 q4 q5 q6)
      | (go_at_call 23; refine (rprint_flt x _ HX.out).mono ?_; rw [HP.out]; rintro e wb ⟨rfl, fb⟩; have e1 := fb.blk d1 (fun q => q); have e2 := fb.blk d2 (fun q => q); have e3 := fb.blk d3 (fun q => q); have r1 := e1.cell 0; have r2 := e1.cell 1; have r3 := e2.cell 0; have r4 := e2.cell 1; have r5 := e3.cell 0; have r6 := e3.cell 1; simp at r1 r2 r3 r4 r5 r6))
    all_goals (refine Via.mk ?_; (repeat (first | (with_reducible exact Fr.refl _ _) | (with_reducible assumption) | (with_reducible exact Fr.of_nil (by assumption)) | (with_reducible refine Fr.drew ?_) | (with_reducible refine Fr.drewN ?_ _) | (with_reducible refine Fr.alloc ?_ _) | (with_reducible refine Fr.set ?_ _ _ (by first | (intros; omega) | (simp; done) | (simp; omega))) | (with_reducible refine Fr.via ?_ (by assumption)) | (with_reducible refine Fr.comp ?_ (by assumption)))))
  rintro V fV
  go_wp2
  go_ret
  exact ⟨rfl, fV⟩
set_option maxRecDepth 100000 in
theorem texts_false (x : Nat) (s : ByteArray) (w : World) (hT : Tabs w) (hE : ErrV w) (hs : s.size ≤ 1000) (hx : x < 18446744073709551616) :
    Calls Tryd.prog 10 #[.agg #[.bool false, .int .u64 (x : Int)], .string s] w fun e w' => e = .returned (.bool true) ∧ Fr Nil w w' := by
  have c1 : ¬ (1000 : Int) < (s.size : Int) := by omega
  obtain ⟨rf, rb, re, hr⟩ := refV_form s.data.toList
  have HR := Lib.hid hr
  have HS := Lib.hid hs
  have HX := Lib.hid hx
  obtain ⟨P, hP⟩ : ∃ P : List UInt8, Lib.itoa (wrap64 (x : Int)) = P := ⟨_, rfl⟩
  have HP := Lib.hid hP
  clear hr hs hx hP
  go_enter Tryd.func10, Tryd.ntmps10
  go_wp2_with fail
  refine (awake_any _ (hT.fr (by (repeat (first | (with_reducible exact Fr.refl _ _) | (with_reducible assumption) | (with_reducible exact Fr.of_nil (by assumption)) | (with_reducible refine Fr.drew ?_) | (with_reducible refine Fr.drewN ?_ _) | (with_reducible refine Fr.alloc ?_ _) | (with_reducible refine Fr.set ?_ _ _ (by first | (intros; omega) | (simp; done) | (simp; omega))) | (with_reducible refine Fr.via ?_ (by assumption)) | (with_reducible refine Fr.comp ?_ (by assumption))))))).mono ?_
  rintro e w1 ⟨rfl, f1⟩
  obtain ⟨_, _, _⟩ := f1.at (w.heap.size) (by first | assumption | omega | (simp; done) | (simp; omega))
  go_wp2_with fail
  refine (parse_any s _ HS.out (hE.fr (by (repeat (first | (with_reducible exact Fr.refl _ _) | (with_reducible assumption) | (with_reducible exact Fr.of_nil (by assumption)) | (with_reducible refine Fr.drew ?_) | (with_reducible refine Fr.drewN ?_ _) | (with_reducible refine Fr.alloc ?_ _) | (with_reducible refine Fr.set ?_ _ _ (by first | (intros; omega) | (simp; done) | (simp; omega))) | (with_reducible refine Fr.via ?_ (by assumption)) | (with_reducible refine Fr.comp ?_ (by assumption))))))).mono ?_
  rw [HR.out]
  rintro e w2 ⟨rfl, f2⟩
  obtain ⟨_, _, _⟩ := f2.at (w.heap.size) (by first | assumption | omega | (simp; done) | (simp; omega))
  go_wp2_with fail
  refine (rparse_any s _ (by have := HS.out; omega)).mono ?_
  rw [HR.out]
  rintro e w3 ⟨rfl, f3⟩
  obtain ⟨_, _, _⟩ := f3.at (w.heap.size) (by first | assumption | omega | (simp; done) | (simp; omega)); obtain ⟨_, _, _⟩ := f3.at (w2.heap.size) (by first | assumption | omega | (simp; done) | (simp; omega))
  go_wp2_with fail
  obtain ⟨W, hW⟩ : ∃ V, V = w3.alloc (.cells #[.bool rf, .int .u64 (rb : Int)] 25) := ⟨_, rfl⟩
  rw [← hW]
  have F0 : Fr Nil w W := by rw [hW]; (repeat (first | (with_reducible exact Fr.refl _ _) | (with_reducible assumption) | (with_reducible exact Fr.of_nil (by assumption)) | (with_reducible refine Fr.drew ?_) | (with_reducible refine Fr.drewN ?_ _) | (with_reducible refine Fr.alloc ?_ _) | (with_reducible refine Fr.set ?_ _ _ (by first | (intros; omega) | (simp; done) | (simp; omega))) | (with_reducible refine Fr.via ?_ (by assumption)) | (with_reducible refine Fr.comp ?_ (by assumption))))
  have G1 : Fr Nil (w.alloc (.cells #[.bool false, .int .u64 (x : Int)] 25)) W := by rw [hW]; (repeat (first | (with_reducible exact Fr.refl _ _) | (with_reducible assumption) | (with_reducible exact Fr.of_nil (by assumption)) | (with_reducible refine Fr.drew ?_) | (with_reducible refine Fr.drewN ?_ _) | (with_reducible refine Fr.alloc ?_ _) | (with_reducible refine Fr.set ?_ _ _ (by first | (intros; omega) | (simp; done) | (simp; omega))) | (with_reducible refine Fr.via ?_ (by assumption)) | (with_reducible refine Fr.comp ?_ (by assumption))))
  have G2 : Fr Nil (w2.alloc (.cells #[.bool rf, .int .u64 (rb : Int)] 25)) W := by rw [hW]; (repeat (first | (with_reducible exact Fr.refl _ _) | (with_reducible assumption) | (with_reducible exact Fr.of_nil (by assumption)) | (with_reducible refine Fr.drew ?_) | (with_reducible refine Fr.drewN ?_ _) | (with_reducible refine Fr.alloc ?_ _) | (with_reducible refine Fr.set ?_ _ _ (by first | (intros; omega) | (simp; done) | (simp; omega))) | (with_reducible refine Fr.via ?_ (by assumption)) | (with_reducible refine Fr.comp ?_ (by assumption))))
  have b1 := G1.new
  have b2 := G2.new
  have b3 : Blk W w3.heap.size #[.bool rf, .int .u64 (rb : Int)] 25 := by rw [hW]; (unfold Blk; simp (disch := first | omega | (simp; done) | (simp; omega)) only [hp_drew, hp_drewN, hp_alloc, hp_other, hp_same, hp_new, upd_cells, Option.map_some])
  have p1 := b1.cell 0
  have p2 := b1.cell 1
  have p3 := b2.cell 0
  have p4 := b2.cell 1
  have p5 := b3.cell 0
  have p6 := b3.cell 1
  simp at p1 p2 p3 p4 p5 p6
  clear hW G1 G2
  apply wp_via (F := fun V => Fr Nil w V)
  · go_region_held3 (fun w' => w'.cell? ⟨w.heap.size, 0, none⟩ = some (.bool false) ∧ w'.cell? ⟨w.heap.size, 1, none⟩ = some (.int .u64 (x : Int)) ∧ w'.cell? ⟨w2.heap.size, 0, none⟩ = some (.bool rf) ∧ w'.cell? ⟨w2.heap.size, 1, none⟩ = some (.int .u64 (rb : Int)) ∧ w'.cell? ⟨w3.heap.size, 0, none⟩ = some (.bool rf) ∧ w'.cell? ⟨w3.heap.size, 1, none⟩ = some (.int .u64 (rb : Int))) (first | go_keep | exact ⟨p1, p2, p3, p4, p5, p6⟩ | exact ⟨q1, q2, q3, q4, q5, q6⟩ | exact ⟨r1, r2, r3, r4, r5, r6⟩) (first
      | (go_at_call 22; refine (print_int (x : Int) _ (hT.fr (by (repeat (first | (with_reducible exact Fr.refl _ _) | (with_reducible assumption) | (with_reducible exact Fr.of_nil (by assumption)) | (with_reducible refine Fr.drew ?_) | (with_reducible refine Fr.drewN ?_ _) | (with_reducible refine Fr.alloc ?_ _) | (with_reducible refine Fr.set ?_ _ _ (by first | (intros; omega) | (simp; done) | (simp; omega))) | (with_reducible refine Fr.via ?_ (by assumption)) | (with_reducible refine Fr.comp ?_ (by assumption))))))).mono ?_; rw [HP.out]; rintro e wa ⟨rfl, fa⟩; have d1 := fa.blk b1.drew (fun q => q); have d2 := fa.blk b2.drew (fun q => q); have d3 := fa.blk b3.drew (fun q => q); have q1 := d1.cell 0; have q2 := d1.cell 1; have q3 := d2.cell 0; have q4 := d2.cell 1; have q5 := d3.cell 0; have q6 := d3.cell 1; simp at q1 q2 q3 q4 q5 q6)
      | (go_at_call 23; refine (rprint_int x _ HX.out).mono ?_; rw [HP.out]; rintro e wb ⟨rfl, fb⟩; have e1 := fb.blk d1 (fun q => q); have e2 := fb.blk d2 (fun q => q); have e3 := fb.blk d3 (fun q => q); have r1 := e1.cell 0; have r2 := e1.cell 1; have r3 := e2.cell 0; have r4 := e2.cell 1; have r5 := e3.cell 0; have r6 := e3.cell 1; simp at r1 r2 r3 r4 r5 r6))
    all_goals (refine Via.mk ?_; (repeat (first | (with_reducible exact Fr.refl _ _) | (with_reducible assumption) | (with_reducible exact Fr.of_nil (by assumption)) | (with_reducible refine Fr.drew ?_) | (with_reducible refine Fr.drewN ?_ _) | (with_reducible refine Fr.alloc ?_ _) | (with_reducible refine Fr.set ?_ _ _ (by first | (intros; omega) | (simp; done) | (simp; omega))) | (with_reducible refine Fr.via ?_ (by assumption)) | (with_reducible refine Fr.comp ?_ (by assumption)))))
  rintro V fV
  go_wp2
  go_ret
  exact ⟨rfl, fV⟩
theorem texts_any (f : Bool) (x : Nat) (s : ByteArray) (w : World) (hT : Tabs w) (hE : ErrV w) (hx : x < 18446744073709551616) :
    Calls Tryd.prog 10 #[.agg #[.bool f, .int .u64 (x : Int)], .string s] w fun e w' => e = .returned (.bool true) ∧ Fr Nil w w' := by
  by_cases hs : s.size ≤ 1000
  · cases f
    · exact texts_false x s w hT hE hs hx
    · exact texts_true x s w hT hE hs hx
  · exact texts_long f x s w hT (by omega)
end Go.Proofs.YtcadbidccmiflaaDoor
