/-
  Layer 5: the law's do, way by way. Printed by gen_l05e.py. Conditions: few uses.
-/
import Derived.Test.YtlpdlhmdhlcdlaaRef5k
namespace Go.Proofs.Ytlpdlhmdhlcdlaa
set_option linter.unusedSimpArgs false
set_option linter.unusedVariables false
open Go.RowKit Go.Shelf

theorem RingIs.lts {w : World} {rg ba bw n u : Nat} {R : Seg4} (h : RingIs w rg ba bw n R u) : rg < w.heap.size ∧ ba < w.heap.size ∧ bw < w.heap.size := by
  obtain ⟨l, f, b, h, _⟩ := h
  exact ⟨h.blk.lt, h.ar.box.lt, h.ar.words.lt⟩
theorem rshade_any (rg ba bw n u : Nat) (w : World) (W F1 F2 G B : List Nat) (c : Nat) (h : RingIs w rg ba bw n ⟨W, F1 ++ c :: F2, G, B⟩ u) (hu : u ≤ 900000000000) :
    Calls Try.prog 14 #[.pointer (some ⟨rg, 0, none⟩), .int .i64 (c : Int)] w fun e w' => e = .returned (.int .i64 0) ∧ (∃ u', RingIs w' rg ba bw n ⟨W, F1 ++ F2, G ++ [c], B⟩ u' ∧ u' ≤ u + 20) ∧ Fr (RS rg ba bw) w w' := by
  by_cases hM : W ++ (F1 ++ (F2 ++ (G ++ B))) = []
  · obtain ⟨rfl, e1⟩ := List.append_eq_nil_iff.1 hM
    obtain ⟨rfl, e2⟩ := List.append_eq_nil_iff.1 e1
    obtain ⟨rfl, e3⟩ := List.append_eq_nil_iff.1 e2
    obtain ⟨rfl, rfl⟩ := List.append_eq_nil_iff.1 e3
    exact rshade_one rg ba bw n u w c h hu
  · exact rshade_many rg ba bw n u w W F1 F2 G B c h hM hu
set_option maxRecDepth 100000 in
theorem ldo_growOut (rg ba bw sb m u : Nat) (W F G B : List Nat) (n : Int) (w : World) (h : RingIs w rg ba bw m ⟨W, F, G, B⟩ u) (hu : u ≤ 900000000000) (hn : n < 1 ∨ (m : Int) - 3 < n) :
    Calls Try.prog 19 #[.pointer (some ⟨rg, 0, none⟩), .pointer (some ⟨sb, 0, none⟩), .agg #[.int .i64 0, .int .i64 n]] w fun e w' => e = .returned (.agg #[.int .i64 0, .bool false, .int .i64 1]) ∧ (∃ u', RingIs w' rg ba bw m ⟨W, F, G, B⟩ u' ∧ u' ≤ u + 20) ∧ Fr (RS rg ba bw) w w' := by
  obtain ⟨lr, la, lb⟩ := h.lts
  have HR := Lib.hid h
  have HNE := Lib.hid (show ∀ b, w.heap.size ≤ b → ¬ RS rg ba bw b from fun b hb q => by rcases q with q | q | q <;> omega)
  clear h
  go_enter Try.func19, Try.ntmps19
  go_wp2_with fail
  refine (rgrow_out rg ba bw m ⟨W, F, G, B⟩ u _ (HR.out.fr (S := Nil) (by (repeat (first | (with_reducible exact Fr.refl _ _) | (with_reducible assumption) | (with_reducible exact Fr.of_nil (by assumption)) | (with_reducible refine Fr.drew ?_) | (with_reducible refine Fr.drewN ?_ _) | (with_reducible refine Fr.alloc ?_ _) | (with_reducible refine Fr.set ?_ _ _ (by first | (intros; omega) | (simp; done) | (simp; omega))) | (with_reducible refine Fr.via ?_ (by assumption)) | (with_reducible refine Fr.comp ?_ (by assumption))))) (fun q => q) (fun q => q) (fun q => q)) n hn).mono ?_
  rintro e w1 ⟨rfl, f1⟩
  have gA := f1.blk (b := w.heap.size + 1) (c := #[.int .i64 0, .bool false, .int .i64 0]) (t := 47) (by (unfold Blk; simp (disch := first | omega | (simp; done) | (simp; omega)) only [hp_drew, hp_drewN, hp_alloc, hp_other, hp_same, hp_new, upd_cells, Option.map_some])) (fun q => q)
  have gB := f1.blk (b := w.heap.size + 2) (c := #[.int .i64 0, .bool false, .int .i64 0]) (t := 47) (by (unfold Blk; simp (disch := first | omega | (simp; done) | (simp; omega)) only [hp_drew, hp_drewN, hp_alloc, hp_other, hp_same, hp_new, upd_cells, Option.map_some])) (fun q => q)
  have s0 := gA.cell 0
  have sf0 := gA.free 0
  have s1 := gA.cell 1
  have sf1 := gA.free 1
  have s2 := gA.cell 2
  have sf2 := gA.free 2
  have sl := gA.lt
  have t0 := gB.cell 0
  have tf0 := gB.free 0
  have t1 := gB.cell 1
  have tf1 := gB.free 1
  have t2 := gB.cell 2
  have tf2 := gB.free 2
  have tl := gB.lt
  simp at s0 s1 s2 t0 t1 t2
  clear gA gB
  go_wp2
  refine bodyPost_ret (v := .agg #[.int .i64 0, .bool false, .int .i64 1]) (by simp [results, Try.results19, go_sem, s0, s1, s2, t0, t1, t2]) rfl ⟨rfl, ?_, by (repeat (first | (with_reducible exact Fr.refl _ _) | (with_reducible assumption) | (with_reducible exact Fr.of_nil (by assumption)) | (with_reducible refine Fr.drew ?_) | (with_reducible refine Fr.drewN ?_ _) | (with_reducible refine Fr.alloc ?_ _) | (with_reducible refine Fr.set ?_ _ _ (by first | (intro _; exact rfl) | (intro _; exact .inl rfl) | (intro _; exact .inr rfl) | (intro q; exact absurd q (Nat.lt_irrefl _)) | (intro q; simp at q; omega))) | (with_reducible refine Fr.via ?_ (by assumption)) | (with_reducible refine Fr.comp ?_ (by assumption))))⟩
  exact ⟨u, HR.out.fr (S := Nil) (by (repeat (first | (with_reducible exact Fr.refl _ _) | (with_reducible assumption) | (with_reducible exact Fr.of_nil (by assumption)) | (with_reducible refine Fr.drew ?_) | (with_reducible refine Fr.drewN ?_ _) | (with_reducible refine Fr.alloc ?_ _) | (with_reducible refine Fr.set ?_ _ _ (by first | (intros; omega) | (simp; done) | (simp; omega))) | (with_reducible refine Fr.via ?_ (by assumption)) | (with_reducible refine Fr.comp ?_ (by assumption))))) (fun q => q) (fun q => q) (fun q => q), by omega⟩
set_option maxRecDepth 100000 in
theorem ldo_growIn (rg ba bw sb m u : Nat) (W F G B : List Nat) (c : Nat) (w : World) (h : RingIs w rg ba bw m ⟨W, F, G, B⟩ u) (hu : u ≤ 900000000000) (h1c : 1 ≤ c) (h2c : c + 3 ≤ m) (hap : ∀ x ∈ (⟨W, F, G, B⟩ : Seg4).all, c + 3 ≤ x ∨ x + 3 ≤ c) :
    Calls Try.prog 19 #[.pointer (some ⟨rg, 0, none⟩), .pointer (some ⟨sb, 0, none⟩), .agg #[.int .i64 0, .int .i64 (c : Int)]] w fun e w' => e = .returned (.agg #[.int .i64 0, .bool false, .int .i64 0]) ∧ (∃ u', RingIs w' rg ba bw m ⟨c :: W, F, G, B⟩ u' ∧ u' ≤ u + 20) ∧ Fr (RS rg ba bw) w w' := by
  obtain ⟨lr, la, lb⟩ := h.lts
  have HR := Lib.hid h
  have HNE := Lib.hid (show ∀ b, w.heap.size ≤ b → ¬ RS rg ba bw b from fun b hb q => by rcases q with q | q | q <;> omega)
  have HAP := Lib.hid hap
  clear hap
  clear h
  go_enter Try.func19, Try.ntmps19
  go_wp2_with fail
  refine (rgrow_in rg ba bw m ⟨W, F, G, B⟩ u _ (HR.out.fr (S := Nil) (by (repeat (first | (with_reducible exact Fr.refl _ _) | (with_reducible assumption) | (with_reducible exact Fr.of_nil (by assumption)) | (with_reducible refine Fr.drew ?_) | (with_reducible refine Fr.drewN ?_ _) | (with_reducible refine Fr.alloc ?_ _) | (with_reducible refine Fr.set ?_ _ _ (by first | (intros; omega) | (simp; done) | (simp; omega))) | (with_reducible refine Fr.via ?_ (by assumption)) | (with_reducible refine Fr.comp ?_ (by assumption))))) (fun q => q) (fun q => q) (fun q => q)) c h1c h2c HAP.out hu).mono ?_
  rintro e w1 ⟨rfl, ⟨u', hR, hu'⟩, f1⟩
  have gA := f1.blk (b := w.heap.size + 1) (c := #[.int .i64 0, .bool false, .int .i64 0]) (t := 47) (by (unfold Blk; simp (disch := first | omega | (simp; done) | (simp; omega)) only [hp_drew, hp_drewN, hp_alloc, hp_other, hp_same, hp_new, upd_cells, Option.map_some])) (HNE.out _ (by omega))
  have gB := f1.blk (b := w.heap.size + 2) (c := #[.int .i64 0, .bool false, .int .i64 0]) (t := 47) (by (unfold Blk; simp (disch := first | omega | (simp; done) | (simp; omega)) only [hp_drew, hp_drewN, hp_alloc, hp_other, hp_same, hp_new, upd_cells, Option.map_some])) (HNE.out _ (by omega))
  have s0 := gA.cell 0
  have sf0 := gA.free 0
  have s1 := gA.cell 1
  have sf1 := gA.free 1
  have s2 := gA.cell 2
  have sf2 := gA.free 2
  have sl := gA.lt
  have t0 := gB.cell 0
  have tf0 := gB.free 0
  have t1 := gB.cell 1
  have tf1 := gB.free 1
  have t2 := gB.cell 2
  have tf2 := gB.free 2
  have tl := gB.lt
  simp at s0 s1 s2 t0 t1 t2
  have HR1 := Lib.hid hR
  clear hR
  clear gA gB
  go_wp2
  refine bodyPost_ret (v := .agg #[.int .i64 0, .bool false, .int .i64 0]) (by simp [results, Try.results19, go_sem, s0, s1, s2, t0, t1, t2]) rfl ⟨rfl, ?_, by (repeat (first | (with_reducible exact Fr.refl _ _) | (with_reducible assumption) | (with_reducible exact Fr.of_nil (by assumption)) | (with_reducible refine Fr.drew ?_) | (with_reducible refine Fr.drewN ?_ _) | (with_reducible refine Fr.alloc ?_ _) | (with_reducible refine Fr.set ?_ _ _ (by first | (intro _; exact rfl) | (intro _; exact .inl rfl) | (intro _; exact .inr rfl) | (intro q; exact absurd q (Nat.lt_irrefl _)) | (intro q; simp at q; omega))) | (with_reducible refine Fr.via ?_ (by assumption)) | (with_reducible refine Fr.comp ?_ (by assumption))))⟩
  exact ⟨u', HR1.out.fr (S := fun x => x = w.heap.size + 2 ∨ x = w.heap.size + 1) (by (repeat (first | (with_reducible exact Fr.refl _ _) | (with_reducible assumption) | (with_reducible exact Fr.of_nil (by assumption)) | (with_reducible refine Fr.drew ?_) | (with_reducible refine Fr.drewN ?_ _) | (with_reducible refine Fr.alloc ?_ _) | (with_reducible refine Fr.set ?_ _ _ (by first | (intro _; exact rfl) | (intro _; exact .inl rfl) | (intro _; exact .inr rfl) | (intro q; exact absurd q (Nat.lt_irrefl _)) | (intro q; simp at q; omega))) | (with_reducible refine Fr.via ?_ (by assumption)) | (with_reducible refine Fr.comp ?_ (by assumption))))) (fun q => by rcases q with q | q <;> omega) (fun q => by rcases q with q | q <;> omega) (fun q => by rcases q with q | q <;> omega), by omega⟩
set_option maxRecDepth 100000 in
theorem ldo_nextNo (rg ba bw sb m u : Nat) (W F B : List Nat) (n : Int) (w : World) (h : RingIs w rg ba bw m ⟨W, F, [], B⟩ u) (hu : u ≤ 900000000000)  :
    Calls Try.prog 19 #[.pointer (some ⟨rg, 0, none⟩), .pointer (some ⟨sb, 0, none⟩), .agg #[.int .i64 3, .int .i64 n]] w fun e w' => e = .returned (.agg #[.int .i64 0, .bool false, .int .i64 0]) ∧ (∃ u', RingIs w' rg ba bw m ⟨W, F, [], B⟩ u' ∧ u' ≤ u + 20) ∧ Fr (RS rg ba bw) w w' := by
  obtain ⟨lr, la, lb⟩ := h.lts
  have HR := Lib.hid h
  have HNE := Lib.hid (show ∀ b, w.heap.size ≤ b → ¬ RS rg ba bw b from fun b hb q => by rcases q with q | q | q <;> omega)
  clear h
  go_enter Try.func19, Try.ntmps19
  go_wp2_with fail
  refine (rgrey_none rg ba bw m u _ W F B (HR.out.fr (S := Nil) (by (repeat (first | (with_reducible exact Fr.refl _ _) | (with_reducible assumption) | (with_reducible exact Fr.of_nil (by assumption)) | (with_reducible refine Fr.drew ?_) | (with_reducible refine Fr.drewN ?_ _) | (with_reducible refine Fr.alloc ?_ _) | (with_reducible refine Fr.set ?_ _ _ (by first | (intros; omega) | (simp; done) | (simp; omega))) | (with_reducible refine Fr.via ?_ (by assumption)) | (with_reducible refine Fr.comp ?_ (by assumption))))) (fun q => q) (fun q => q) (fun q => q))).mono ?_
  rintro e w1 ⟨rfl, f1⟩
  have gA := f1.blk (b := w.heap.size + 1) (c := #[.int .i64 0, .bool false, .int .i64 0]) (t := 47) (by (unfold Blk; simp (disch := first | omega | (simp; done) | (simp; omega)) only [hp_drew, hp_drewN, hp_alloc, hp_other, hp_same, hp_new, upd_cells, Option.map_some])) (fun q => q)
  have gB := f1.blk (b := w.heap.size + 2) (c := #[.int .i64 0, .bool false, .int .i64 0]) (t := 47) (by (unfold Blk; simp (disch := first | omega | (simp; done) | (simp; omega)) only [hp_drew, hp_drewN, hp_alloc, hp_other, hp_same, hp_new, upd_cells, Option.map_some])) (fun q => q)
  have s0 := gA.cell 0
  have sf0 := gA.free 0
  have s1 := gA.cell 1
  have sf1 := gA.free 1
  have s2 := gA.cell 2
  have sf2 := gA.free 2
  have sl := gA.lt
  have t0 := gB.cell 0
  have tf0 := gB.free 0
  have t1 := gB.cell 1
  have tf1 := gB.free 1
  have t2 := gB.cell 2
  have tf2 := gB.free 2
  have tl := gB.lt
  simp at s0 s1 s2 t0 t1 t2
  clear gA gB
  go_wp2
  refine bodyPost_ret (v := .agg #[.int .i64 0, .bool false, .int .i64 0]) (by simp [results, Try.results19, go_sem, s0, s1, s2, t0, t1, t2]) rfl ⟨rfl, ?_, by (repeat (first | (with_reducible exact Fr.refl _ _) | (with_reducible assumption) | (with_reducible exact Fr.of_nil (by assumption)) | (with_reducible refine Fr.drew ?_) | (with_reducible refine Fr.drewN ?_ _) | (with_reducible refine Fr.alloc ?_ _) | (with_reducible refine Fr.set ?_ _ _ (by first | (intro _; exact rfl) | (intro _; exact .inl rfl) | (intro _; exact .inr rfl) | (intro q; exact absurd q (Nat.lt_irrefl _)) | (intro q; simp at q; omega))) | (with_reducible refine Fr.via ?_ (by assumption)) | (with_reducible refine Fr.comp ?_ (by assumption))))⟩
  exact ⟨u, HR.out.fr (S := Nil) (by (repeat (first | (with_reducible exact Fr.refl _ _) | (with_reducible assumption) | (with_reducible exact Fr.of_nil (by assumption)) | (with_reducible refine Fr.drew ?_) | (with_reducible refine Fr.drewN ?_ _) | (with_reducible refine Fr.alloc ?_ _) | (with_reducible refine Fr.set ?_ _ _ (by first | (intros; omega) | (simp; done) | (simp; omega))) | (with_reducible refine Fr.via ?_ (by assumption)) | (with_reducible refine Fr.comp ?_ (by assumption))))) (fun q => q) (fun q => q) (fun q => q), by omega⟩
set_option maxRecDepth 100000 in
theorem ldo_next (rg ba bw sb m u : Nat) (W F G B : List Nat) (c : Nat) (n : Int) (w : World) (h : RingIs w rg ba bw m ⟨W, F, G ++ [c], B⟩ u) (hu : u ≤ 900000000000)  :
    Calls Try.prog 19 #[.pointer (some ⟨rg, 0, none⟩), .pointer (some ⟨sb, 0, none⟩), .agg #[.int .i64 3, .int .i64 n]] w fun e w' => e = .returned (.agg #[.int .i64 (c : Int), .bool true, .int .i64 0]) ∧ (∃ u', RingIs w' rg ba bw m ⟨W, F, G ++ [c], B⟩ u' ∧ u' ≤ u + 20) ∧ Fr (RS rg ba bw) w w' := by
  obtain ⟨lr, la, lb⟩ := h.lts
  have HR := Lib.hid h
  have HNE := Lib.hid (show ∀ b, w.heap.size ≤ b → ¬ RS rg ba bw b from fun b hb q => by rcases q with q | q | q <;> omega)
  clear h
  go_enter Try.func19, Try.ntmps19
  go_wp2_with fail
  refine (rgrey_some rg ba bw m u _ W F G B c (HR.out.fr (S := Nil) (by (repeat (first | (with_reducible exact Fr.refl _ _) | (with_reducible assumption) | (with_reducible exact Fr.of_nil (by assumption)) | (with_reducible refine Fr.drew ?_) | (with_reducible refine Fr.drewN ?_ _) | (with_reducible refine Fr.alloc ?_ _) | (with_reducible refine Fr.set ?_ _ _ (by first | (intros; omega) | (simp; done) | (simp; omega))) | (with_reducible refine Fr.via ?_ (by assumption)) | (with_reducible refine Fr.comp ?_ (by assumption))))) (fun q => q) (fun q => q) (fun q => q)) hu).mono ?_
  rintro e w1 ⟨rfl, ⟨u', hR, hu'⟩, f1⟩
  have gA := f1.blk (b := w.heap.size + 1) (c := #[.int .i64 0, .bool false, .int .i64 0]) (t := 47) (by (unfold Blk; simp (disch := first | omega | (simp; done) | (simp; omega)) only [hp_drew, hp_drewN, hp_alloc, hp_other, hp_same, hp_new, upd_cells, Option.map_some])) (HNE.out _ (by omega))
  have gB := f1.blk (b := w.heap.size + 2) (c := #[.int .i64 0, .bool false, .int .i64 0]) (t := 47) (by (unfold Blk; simp (disch := first | omega | (simp; done) | (simp; omega)) only [hp_drew, hp_drewN, hp_alloc, hp_other, hp_same, hp_new, upd_cells, Option.map_some])) (HNE.out _ (by omega))
  have s0 := gA.cell 0
  have sf0 := gA.free 0
  have s1 := gA.cell 1
  have sf1 := gA.free 1
  have s2 := gA.cell 2
  have sf2 := gA.free 2
  have sl := gA.lt
  have t0 := gB.cell 0
  have tf0 := gB.free 0
  have t1 := gB.cell 1
  have tf1 := gB.free 1
  have t2 := gB.cell 2
  have tf2 := gB.free 2
  have tl := gB.lt
  simp at s0 s1 s2 t0 t1 t2
  have HR1 := Lib.hid hR
  clear hR
  clear gA gB
  go_wp2
  refine bodyPost_ret (v := .agg #[.int .i64 (c : Int), .bool true, .int .i64 0]) (by simp [results, Try.results19, go_sem, s0, s1, s2, t0, t1, t2]) rfl ⟨rfl, ?_, by (repeat (first | (with_reducible exact Fr.refl _ _) | (with_reducible assumption) | (with_reducible exact Fr.of_nil (by assumption)) | (with_reducible refine Fr.drew ?_) | (with_reducible refine Fr.drewN ?_ _) | (with_reducible refine Fr.alloc ?_ _) | (with_reducible refine Fr.set ?_ _ _ (by first | (intro _; exact rfl) | (intro _; exact .inl rfl) | (intro _; exact .inr rfl) | (intro q; exact absurd q (Nat.lt_irrefl _)) | (intro q; simp at q; omega))) | (with_reducible refine Fr.via ?_ (by assumption)) | (with_reducible refine Fr.comp ?_ (by assumption))))⟩
  exact ⟨u', HR1.out.fr (S := fun x => x = w.heap.size + 2 ∨ x = w.heap.size + 1) (by (repeat (first | (with_reducible exact Fr.refl _ _) | (with_reducible assumption) | (with_reducible exact Fr.of_nil (by assumption)) | (with_reducible refine Fr.drew ?_) | (with_reducible refine Fr.drewN ?_ _) | (with_reducible refine Fr.alloc ?_ _) | (with_reducible refine Fr.set ?_ _ _ (by first | (intro _; exact rfl) | (intro _; exact .inl rfl) | (intro _; exact .inr rfl) | (intro q; exact absurd q (Nat.lt_irrefl _)) | (intro q; simp at q; omega))) | (with_reducible refine Fr.via ?_ (by assumption)) | (with_reducible refine Fr.comp ?_ (by assumption))))) (fun q => by rcases q with q | q <;> omega) (fun q => by rcases q with q | q <;> omega) (fun q => by rcases q with q | q <;> omega), by omega⟩
set_option maxRecDepth 100000 in
theorem ldo_doneNo (rg ba bw sb m u : Nat) (W F B : List Nat) (n : Int) (w : World) (h : RingIs w rg ba bw m ⟨W, F, [], B⟩ u) (hu : u ≤ 900000000000)  :
    Calls Try.prog 19 #[.pointer (some ⟨rg, 0, none⟩), .pointer (some ⟨sb, 0, none⟩), .agg #[.int .i64 4, .int .i64 n]] w fun e w' => e = .returned (.agg #[.int .i64 0, .bool false, .int .i64 18]) ∧ (∃ u', RingIs w' rg ba bw m ⟨W, F, [], B⟩ u' ∧ u' ≤ u + 20) ∧ Fr (RS rg ba bw) w w' := by
  obtain ⟨lr, la, lb⟩ := h.lts
  have HR := Lib.hid h
  have HNE := Lib.hid (show ∀ b, w.heap.size ≤ b → ¬ RS rg ba bw b from fun b hb q => by rcases q with q | q | q <;> omega)
  clear h
  go_enter Try.func19, Try.ntmps19
  go_wp2_with fail
  refine (rdone_none rg ba bw m u _ W F B (HR.out.fr (S := Nil) (by (repeat (first | (with_reducible exact Fr.refl _ _) | (with_reducible assumption) | (with_reducible exact Fr.of_nil (by assumption)) | (with_reducible refine Fr.drew ?_) | (with_reducible refine Fr.drewN ?_ _) | (with_reducible refine Fr.alloc ?_ _) | (with_reducible refine Fr.set ?_ _ _ (by first | (intros; omega) | (simp; done) | (simp; omega))) | (with_reducible refine Fr.via ?_ (by assumption)) | (with_reducible refine Fr.comp ?_ (by assumption))))) (fun q => q) (fun q => q) (fun q => q))).mono ?_
  rintro e w1 ⟨rfl, f1⟩
  have gA := f1.blk (b := w.heap.size + 1) (c := #[.int .i64 0, .bool false, .int .i64 0]) (t := 47) (by (unfold Blk; simp (disch := first | omega | (simp; done) | (simp; omega)) only [hp_drew, hp_drewN, hp_alloc, hp_other, hp_same, hp_new, upd_cells, Option.map_some])) (fun q => q)
  have gB := f1.blk (b := w.heap.size + 2) (c := #[.int .i64 0, .bool false, .int .i64 0]) (t := 47) (by (unfold Blk; simp (disch := first | omega | (simp; done) | (simp; omega)) only [hp_drew, hp_drewN, hp_alloc, hp_other, hp_same, hp_new, upd_cells, Option.map_some])) (fun q => q)
  have s0 := gA.cell 0
  have sf0 := gA.free 0
  have s1 := gA.cell 1
  have sf1 := gA.free 1
  have s2 := gA.cell 2
  have sf2 := gA.free 2
  have sl := gA.lt
  have t0 := gB.cell 0
  have tf0 := gB.free 0
  have t1 := gB.cell 1
  have tf1 := gB.free 1
  have t2 := gB.cell 2
  have tf2 := gB.free 2
  have tl := gB.lt
  simp at s0 s1 s2 t0 t1 t2
  clear gA gB
  go_wp2
  refine bodyPost_ret (v := .agg #[.int .i64 0, .bool false, .int .i64 18]) (by simp [results, Try.results19, go_sem, s0, s1, s2, t0, t1, t2]) rfl ⟨rfl, ?_, by (repeat (first | (with_reducible exact Fr.refl _ _) | (with_reducible assumption) | (with_reducible exact Fr.of_nil (by assumption)) | (with_reducible refine Fr.drew ?_) | (with_reducible refine Fr.drewN ?_ _) | (with_reducible refine Fr.alloc ?_ _) | (with_reducible refine Fr.set ?_ _ _ (by first | (intro _; exact rfl) | (intro _; exact .inl rfl) | (intro _; exact .inr rfl) | (intro q; exact absurd q (Nat.lt_irrefl _)) | (intro q; simp at q; omega))) | (with_reducible refine Fr.via ?_ (by assumption)) | (with_reducible refine Fr.comp ?_ (by assumption))))⟩
  exact ⟨u, HR.out.fr (S := Nil) (by (repeat (first | (with_reducible exact Fr.refl _ _) | (with_reducible assumption) | (with_reducible exact Fr.of_nil (by assumption)) | (with_reducible refine Fr.drew ?_) | (with_reducible refine Fr.drewN ?_ _) | (with_reducible refine Fr.alloc ?_ _) | (with_reducible refine Fr.set ?_ _ _ (by first | (intros; omega) | (simp; done) | (simp; omega))) | (with_reducible refine Fr.via ?_ (by assumption)) | (with_reducible refine Fr.comp ?_ (by assumption))))) (fun q => q) (fun q => q) (fun q => q), by omega⟩
set_option maxRecDepth 100000 in
theorem ldo_done (rg ba bw sb m u : Nat) (W F G B : List Nat) (c : Nat) (n : Int) (w : World) (h : RingIs w rg ba bw m ⟨W, F, G ++ [c], B⟩ u) (hu : u ≤ 900000000000)  :
    Calls Try.prog 19 #[.pointer (some ⟨rg, 0, none⟩), .pointer (some ⟨sb, 0, none⟩), .agg #[.int .i64 4, .int .i64 n]] w fun e w' => e = .returned (.agg #[.int .i64 0, .bool false, .int .i64 0]) ∧ (∃ u', RingIs w' rg ba bw m ⟨W, F, G, c :: B⟩ u' ∧ u' ≤ u + 20) ∧ Fr (RS rg ba bw) w w' := by
  obtain ⟨lr, la, lb⟩ := h.lts
  have HR := Lib.hid h
  have HNE := Lib.hid (show ∀ b, w.heap.size ≤ b → ¬ RS rg ba bw b from fun b hb q => by rcases q with q | q | q <;> omega)
  clear h
  go_enter Try.func19, Try.ntmps19
  go_wp2_with fail
  refine (rdone_some rg ba bw m u _ W F G B c (HR.out.fr (S := Nil) (by (repeat (first | (with_reducible exact Fr.refl _ _) | (with_reducible assumption) | (with_reducible exact Fr.of_nil (by assumption)) | (with_reducible refine Fr.drew ?_) | (with_reducible refine Fr.drewN ?_ _) | (with_reducible refine Fr.alloc ?_ _) | (with_reducible refine Fr.set ?_ _ _ (by first | (intros; omega) | (simp; done) | (simp; omega))) | (with_reducible refine Fr.via ?_ (by assumption)) | (with_reducible refine Fr.comp ?_ (by assumption))))) (fun q => q) (fun q => q) (fun q => q)) hu).mono ?_
  rintro e w1 ⟨rfl, ⟨u', hR, hu'⟩, f1⟩
  have gA := f1.blk (b := w.heap.size + 1) (c := #[.int .i64 0, .bool false, .int .i64 0]) (t := 47) (by (unfold Blk; simp (disch := first | omega | (simp; done) | (simp; omega)) only [hp_drew, hp_drewN, hp_alloc, hp_other, hp_same, hp_new, upd_cells, Option.map_some])) (HNE.out _ (by omega))
  have gB := f1.blk (b := w.heap.size + 2) (c := #[.int .i64 0, .bool false, .int .i64 0]) (t := 47) (by (unfold Blk; simp (disch := first | omega | (simp; done) | (simp; omega)) only [hp_drew, hp_drewN, hp_alloc, hp_other, hp_same, hp_new, upd_cells, Option.map_some])) (HNE.out _ (by omega))
  have s0 := gA.cell 0
  have sf0 := gA.free 0
  have s1 := gA.cell 1
  have sf1 := gA.free 1
  have s2 := gA.cell 2
  have sf2 := gA.free 2
  have sl := gA.lt
  have t0 := gB.cell 0
  have tf0 := gB.free 0
  have t1 := gB.cell 1
  have tf1 := gB.free 1
  have t2 := gB.cell 2
  have tf2 := gB.free 2
  have tl := gB.lt
  simp at s0 s1 s2 t0 t1 t2
  have HR1 := Lib.hid hR
  clear hR
  clear gA gB
  go_wp2
  refine bodyPost_ret (v := .agg #[.int .i64 0, .bool false, .int .i64 0]) (by simp [results, Try.results19, go_sem, s0, s1, s2, t0, t1, t2]) rfl ⟨rfl, ?_, by (repeat (first | (with_reducible exact Fr.refl _ _) | (with_reducible assumption) | (with_reducible exact Fr.of_nil (by assumption)) | (with_reducible refine Fr.drew ?_) | (with_reducible refine Fr.drewN ?_ _) | (with_reducible refine Fr.alloc ?_ _) | (with_reducible refine Fr.set ?_ _ _ (by first | (intro _; exact rfl) | (intro _; exact .inl rfl) | (intro _; exact .inr rfl) | (intro q; exact absurd q (Nat.lt_irrefl _)) | (intro q; simp at q; omega))) | (with_reducible refine Fr.via ?_ (by assumption)) | (with_reducible refine Fr.comp ?_ (by assumption))))⟩
  exact ⟨u', HR1.out.fr (S := fun x => x = w.heap.size + 2 ∨ x = w.heap.size + 1) (by (repeat (first | (with_reducible exact Fr.refl _ _) | (with_reducible assumption) | (with_reducible exact Fr.of_nil (by assumption)) | (with_reducible refine Fr.drew ?_) | (with_reducible refine Fr.drewN ?_ _) | (with_reducible refine Fr.alloc ?_ _) | (with_reducible refine Fr.set ?_ _ _ (by first | (intro _; exact rfl) | (intro _; exact .inl rfl) | (intro _; exact .inr rfl) | (intro q; exact absurd q (Nat.lt_irrefl _)) | (intro q; simp at q; omega))) | (with_reducible refine Fr.via ?_ (by assumption)) | (with_reducible refine Fr.comp ?_ (by assumption))))) (fun q => by rcases q with q | q <;> omega) (fun q => by rcases q with q | q <;> omega) (fun q => by rcases q with q | q <;> omega), by omega⟩
set_option maxRecDepth 100000 in
theorem ldo_beginNo (rg ba bw sb m u : Nat) (W F G B : List Nat) (n : Int) (w : World) (h : RingIs w rg ba bw m ⟨W, F, G, B⟩ u) (hu : u ≤ 900000000000) (hfg : F ≠ [] ∨ G ≠ []) :
    Calls Try.prog 19 #[.pointer (some ⟨rg, 0, none⟩), .pointer (some ⟨sb, 0, none⟩), .agg #[.int .i64 5, .int .i64 n]] w fun e w' => e = .returned (.agg #[.int .i64 0, .bool false, .int .i64 18]) ∧ (∃ u', RingIs w' rg ba bw m ⟨W, F, G, B⟩ u' ∧ u' ≤ u + 20) ∧ Fr (RS rg ba bw) w w' := by
  obtain ⟨lr, la, lb⟩ := h.lts
  have HR := Lib.hid h
  have HNE := Lib.hid (show ∀ b, w.heap.size ≤ b → ¬ RS rg ba bw b from fun b hb q => by rcases q with q | q | q <;> omega)
  clear h
  go_enter Try.func19, Try.ntmps19
  go_wp2_with fail
  refine (rbegin_bad rg ba bw m u _ W F G B (HR.out.fr (S := Nil) (by (repeat (first | (with_reducible exact Fr.refl _ _) | (with_reducible assumption) | (with_reducible exact Fr.of_nil (by assumption)) | (with_reducible refine Fr.drew ?_) | (with_reducible refine Fr.drewN ?_ _) | (with_reducible refine Fr.alloc ?_ _) | (with_reducible refine Fr.set ?_ _ _ (by first | (intros; omega) | (simp; done) | (simp; omega))) | (with_reducible refine Fr.via ?_ (by assumption)) | (with_reducible refine Fr.comp ?_ (by assumption))))) (fun q => q) (fun q => q) (fun q => q)) hfg).mono ?_
  rintro e w1 ⟨rfl, f1⟩
  have gA := f1.blk (b := w.heap.size + 1) (c := #[.int .i64 0, .bool false, .int .i64 0]) (t := 47) (by (unfold Blk; simp (disch := first | omega | (simp; done) | (simp; omega)) only [hp_drew, hp_drewN, hp_alloc, hp_other, hp_same, hp_new, upd_cells, Option.map_some])) (fun q => q)
  have gB := f1.blk (b := w.heap.size + 2) (c := #[.int .i64 0, .bool false, .int .i64 0]) (t := 47) (by (unfold Blk; simp (disch := first | omega | (simp; done) | (simp; omega)) only [hp_drew, hp_drewN, hp_alloc, hp_other, hp_same, hp_new, upd_cells, Option.map_some])) (fun q => q)
  have s0 := gA.cell 0
  have sf0 := gA.free 0
  have s1 := gA.cell 1
  have sf1 := gA.free 1
  have s2 := gA.cell 2
  have sf2 := gA.free 2
  have sl := gA.lt
  have t0 := gB.cell 0
  have tf0 := gB.free 0
  have t1 := gB.cell 1
  have tf1 := gB.free 1
  have t2 := gB.cell 2
  have tf2 := gB.free 2
  have tl := gB.lt
  simp at s0 s1 s2 t0 t1 t2
  clear gA gB
  go_wp2
  refine bodyPost_ret (v := .agg #[.int .i64 0, .bool false, .int .i64 18]) (by simp [results, Try.results19, go_sem, s0, s1, s2, t0, t1, t2]) rfl ⟨rfl, ?_, by (repeat (first | (with_reducible exact Fr.refl _ _) | (with_reducible assumption) | (with_reducible exact Fr.of_nil (by assumption)) | (with_reducible refine Fr.drew ?_) | (with_reducible refine Fr.drewN ?_ _) | (with_reducible refine Fr.alloc ?_ _) | (with_reducible refine Fr.set ?_ _ _ (by first | (intro _; exact rfl) | (intro _; exact .inl rfl) | (intro _; exact .inr rfl) | (intro q; exact absurd q (Nat.lt_irrefl _)) | (intro q; simp at q; omega))) | (with_reducible refine Fr.via ?_ (by assumption)) | (with_reducible refine Fr.comp ?_ (by assumption))))⟩
  exact ⟨u, HR.out.fr (S := Nil) (by (repeat (first | (with_reducible exact Fr.refl _ _) | (with_reducible assumption) | (with_reducible exact Fr.of_nil (by assumption)) | (with_reducible refine Fr.drew ?_) | (with_reducible refine Fr.drewN ?_ _) | (with_reducible refine Fr.alloc ?_ _) | (with_reducible refine Fr.set ?_ _ _ (by first | (intros; omega) | (simp; done) | (simp; omega))) | (with_reducible refine Fr.via ?_ (by assumption)) | (with_reducible refine Fr.comp ?_ (by assumption))))) (fun q => q) (fun q => q) (fun q => q), by omega⟩
set_option maxRecDepth 100000 in
theorem ldo_begin (rg ba bw sb m u : Nat) (W B : List Nat) (n : Int) (w : World) (h : RingIs w rg ba bw m ⟨W, [], [], B⟩ u) (hu : u ≤ 900000000000)  :
    Calls Try.prog 19 #[.pointer (some ⟨rg, 0, none⟩), .pointer (some ⟨sb, 0, none⟩), .agg #[.int .i64 5, .int .i64 n]] w fun e w' => e = .returned (.agg #[.int .i64 0, .bool false, .int .i64 0]) ∧ (∃ u', RingIs w' rg ba bw m ⟨W, B, [], []⟩ u' ∧ u' ≤ u + 20) ∧ Fr (RS rg ba bw) w w' := by
  obtain ⟨lr, la, lb⟩ := h.lts
  have HR := Lib.hid h
  have HNE := Lib.hid (show ∀ b, w.heap.size ≤ b → ¬ RS rg ba bw b from fun b hb q => by rcases q with q | q | q <;> omega)
  clear h
  go_enter Try.func19, Try.ntmps19
  go_wp2_with fail
  refine (rbegin_ok rg ba bw m u _ W B (HR.out.fr (S := Nil) (by (repeat (first | (with_reducible exact Fr.refl _ _) | (with_reducible assumption) | (with_reducible exact Fr.of_nil (by assumption)) | (with_reducible refine Fr.drew ?_) | (with_reducible refine Fr.drewN ?_ _) | (with_reducible refine Fr.alloc ?_ _) | (with_reducible refine Fr.set ?_ _ _ (by first | (intros; omega) | (simp; done) | (simp; omega))) | (with_reducible refine Fr.via ?_ (by assumption)) | (with_reducible refine Fr.comp ?_ (by assumption))))) (fun q => q) (fun q => q) (fun q => q))).mono ?_
  rintro e w1 ⟨rfl, hR, f1⟩
  have gA := f1.blk (b := w.heap.size + 1) (c := #[.int .i64 0, .bool false, .int .i64 0]) (t := 47) (by (unfold Blk; simp (disch := first | omega | (simp; done) | (simp; omega)) only [hp_drew, hp_drewN, hp_alloc, hp_other, hp_same, hp_new, upd_cells, Option.map_some])) (HNE.out _ (by omega))
  have gB := f1.blk (b := w.heap.size + 2) (c := #[.int .i64 0, .bool false, .int .i64 0]) (t := 47) (by (unfold Blk; simp (disch := first | omega | (simp; done) | (simp; omega)) only [hp_drew, hp_drewN, hp_alloc, hp_other, hp_same, hp_new, upd_cells, Option.map_some])) (HNE.out _ (by omega))
  have s0 := gA.cell 0
  have sf0 := gA.free 0
  have s1 := gA.cell 1
  have sf1 := gA.free 1
  have s2 := gA.cell 2
  have sf2 := gA.free 2
  have sl := gA.lt
  have t0 := gB.cell 0
  have tf0 := gB.free 0
  have t1 := gB.cell 1
  have tf1 := gB.free 1
  have t2 := gB.cell 2
  have tf2 := gB.free 2
  have tl := gB.lt
  simp at s0 s1 s2 t0 t1 t2
  have HR1 := Lib.hid hR
  clear hR
  clear gA gB
  go_wp2
  refine bodyPost_ret (v := .agg #[.int .i64 0, .bool false, .int .i64 0]) (by simp [results, Try.results19, go_sem, s0, s1, s2, t0, t1, t2]) rfl ⟨rfl, ?_, by (repeat (first | (with_reducible exact Fr.refl _ _) | (with_reducible assumption) | (with_reducible exact Fr.of_nil (by assumption)) | (with_reducible refine Fr.drew ?_) | (with_reducible refine Fr.drewN ?_ _) | (with_reducible refine Fr.alloc ?_ _) | (with_reducible refine Fr.set ?_ _ _ (by first | (intro _; exact rfl) | (intro _; exact .inl rfl) | (intro _; exact .inr rfl) | (intro q; exact absurd q (Nat.lt_irrefl _)) | (intro q; simp at q; omega))) | (with_reducible refine Fr.via ?_ (by assumption)) | (with_reducible refine Fr.comp ?_ (by assumption))))⟩
  exact ⟨u, HR1.out.fr (S := fun x => x = w.heap.size + 2 ∨ x = w.heap.size + 1) (by (repeat (first | (with_reducible exact Fr.refl _ _) | (with_reducible assumption) | (with_reducible exact Fr.of_nil (by assumption)) | (with_reducible refine Fr.drew ?_) | (with_reducible refine Fr.drewN ?_ _) | (with_reducible refine Fr.alloc ?_ _) | (with_reducible refine Fr.set ?_ _ _ (by first | (intro _; exact rfl) | (intro _; exact .inl rfl) | (intro _; exact .inr rfl) | (intro q; exact absurd q (Nat.lt_irrefl _)) | (intro q; simp at q; omega))) | (with_reducible refine Fr.via ?_ (by assumption)) | (with_reducible refine Fr.comp ?_ (by assumption))))) (fun q => by rcases q with q | q <;> omega) (fun q => by rcases q with q | q <;> omega) (fun q => by rcases q with q | q <;> omega), by omega⟩
set_option maxRecDepth 100000 in
theorem ldo_endNo (rg ba bw sb m u : Nat) (W F G B : List Nat) (n : Int) (w : World) (h : RingIs w rg ba bw m ⟨W, F, G, B⟩ u) (hu : u ≤ 900000000000) (hfg : G ≠ []) :
    Calls Try.prog 19 #[.pointer (some ⟨rg, 0, none⟩), .pointer (some ⟨sb, 0, none⟩), .agg #[.int .i64 6, .int .i64 n]] w fun e w' => e = .returned (.agg #[.int .i64 0, .bool false, .int .i64 18]) ∧ (∃ u', RingIs w' rg ba bw m ⟨W, F, G, B⟩ u' ∧ u' ≤ u + 20) ∧ Fr (RS rg ba bw) w w' := by
  obtain ⟨lr, la, lb⟩ := h.lts
  have HR := Lib.hid h
  have HNE := Lib.hid (show ∀ b, w.heap.size ≤ b → ¬ RS rg ba bw b from fun b hb q => by rcases q with q | q | q <;> omega)
  clear h
  go_enter Try.func19, Try.ntmps19
  go_wp2_with fail
  refine (rend_bad rg ba bw m u _ W F G B (HR.out.fr (S := Nil) (by (repeat (first | (with_reducible exact Fr.refl _ _) | (with_reducible assumption) | (with_reducible exact Fr.of_nil (by assumption)) | (with_reducible refine Fr.drew ?_) | (with_reducible refine Fr.drewN ?_ _) | (with_reducible refine Fr.alloc ?_ _) | (with_reducible refine Fr.set ?_ _ _ (by first | (intros; omega) | (simp; done) | (simp; omega))) | (with_reducible refine Fr.via ?_ (by assumption)) | (with_reducible refine Fr.comp ?_ (by assumption))))) (fun q => q) (fun q => q) (fun q => q)) hfg).mono ?_
  rintro e w1 ⟨rfl, f1⟩
  have gA := f1.blk (b := w.heap.size + 1) (c := #[.int .i64 0, .bool false, .int .i64 0]) (t := 47) (by (unfold Blk; simp (disch := first | omega | (simp; done) | (simp; omega)) only [hp_drew, hp_drewN, hp_alloc, hp_other, hp_same, hp_new, upd_cells, Option.map_some])) (fun q => q)
  have gB := f1.blk (b := w.heap.size + 2) (c := #[.int .i64 0, .bool false, .int .i64 0]) (t := 47) (by (unfold Blk; simp (disch := first | omega | (simp; done) | (simp; omega)) only [hp_drew, hp_drewN, hp_alloc, hp_other, hp_same, hp_new, upd_cells, Option.map_some])) (fun q => q)
  have s0 := gA.cell 0
  have sf0 := gA.free 0
  have s1 := gA.cell 1
  have sf1 := gA.free 1
  have s2 := gA.cell 2
  have sf2 := gA.free 2
  have sl := gA.lt
  have t0 := gB.cell 0
  have tf0 := gB.free 0
  have t1 := gB.cell 1
  have tf1 := gB.free 1
  have t2 := gB.cell 2
  have tf2 := gB.free 2
  have tl := gB.lt
  simp at s0 s1 s2 t0 t1 t2
  clear gA gB
  go_wp2
  refine bodyPost_ret (v := .agg #[.int .i64 0, .bool false, .int .i64 18]) (by simp [results, Try.results19, go_sem, s0, s1, s2, t0, t1, t2]) rfl ⟨rfl, ?_, by (repeat (first | (with_reducible exact Fr.refl _ _) | (with_reducible assumption) | (with_reducible exact Fr.of_nil (by assumption)) | (with_reducible refine Fr.drew ?_) | (with_reducible refine Fr.drewN ?_ _) | (with_reducible refine Fr.alloc ?_ _) | (with_reducible refine Fr.set ?_ _ _ (by first | (intro _; exact rfl) | (intro _; exact .inl rfl) | (intro _; exact .inr rfl) | (intro q; exact absurd q (Nat.lt_irrefl _)) | (intro q; simp at q; omega))) | (with_reducible refine Fr.via ?_ (by assumption)) | (with_reducible refine Fr.comp ?_ (by assumption))))⟩
  exact ⟨u, HR.out.fr (S := Nil) (by (repeat (first | (with_reducible exact Fr.refl _ _) | (with_reducible assumption) | (with_reducible exact Fr.of_nil (by assumption)) | (with_reducible refine Fr.drew ?_) | (with_reducible refine Fr.drewN ?_ _) | (with_reducible refine Fr.alloc ?_ _) | (with_reducible refine Fr.set ?_ _ _ (by first | (intros; omega) | (simp; done) | (simp; omega))) | (with_reducible refine Fr.via ?_ (by assumption)) | (with_reducible refine Fr.comp ?_ (by assumption))))) (fun q => q) (fun q => q) (fun q => q), by omega⟩
set_option maxRecDepth 100000 in
theorem ldo_endOk (rg ba bw sb m u : Nat) (W F B : List Nat) (n : Int) (w : World) (h : RingIs w rg ba bw m ⟨W, F, [], B⟩ u) (hu : u ≤ 900000000000)  :
    Calls Try.prog 19 #[.pointer (some ⟨rg, 0, none⟩), .pointer (some ⟨sb, 0, none⟩), .agg #[.int .i64 6, .int .i64 n]] w fun e w' => e = .returned (.agg #[.int .i64 0, .bool false, .int .i64 0]) ∧ (∃ u', RingIs w' rg ba bw m ⟨W ++ F, [], [], B⟩ u' ∧ u' ≤ u + 20) ∧ Fr (RS rg ba bw) w w' := by
  obtain ⟨lr, la, lb⟩ := h.lts
  have HR := Lib.hid h
  have HNE := Lib.hid (show ∀ b, w.heap.size ≤ b → ¬ RS rg ba bw b from fun b hb q => by rcases q with q | q | q <;> omega)
  clear h
  go_enter Try.func19, Try.ntmps19
  go_wp2_with fail
  refine (rend_ok rg ba bw m u _ W F B (HR.out.fr (S := Nil) (by (repeat (first | (with_reducible exact Fr.refl _ _) | (with_reducible assumption) | (with_reducible exact Fr.of_nil (by assumption)) | (with_reducible refine Fr.drew ?_) | (with_reducible refine Fr.drewN ?_ _) | (with_reducible refine Fr.alloc ?_ _) | (with_reducible refine Fr.set ?_ _ _ (by first | (intros; omega) | (simp; done) | (simp; omega))) | (with_reducible refine Fr.via ?_ (by assumption)) | (with_reducible refine Fr.comp ?_ (by assumption))))) (fun q => q) (fun q => q) (fun q => q))).mono ?_
  rintro e w1 ⟨rfl, hR, f1⟩
  have gA := f1.blk (b := w.heap.size + 1) (c := #[.int .i64 0, .bool false, .int .i64 0]) (t := 47) (by (unfold Blk; simp (disch := first | omega | (simp; done) | (simp; omega)) only [hp_drew, hp_drewN, hp_alloc, hp_other, hp_same, hp_new, upd_cells, Option.map_some])) (HNE.out _ (by omega))
  have gB := f1.blk (b := w.heap.size + 2) (c := #[.int .i64 0, .bool false, .int .i64 0]) (t := 47) (by (unfold Blk; simp (disch := first | omega | (simp; done) | (simp; omega)) only [hp_drew, hp_drewN, hp_alloc, hp_other, hp_same, hp_new, upd_cells, Option.map_some])) (HNE.out _ (by omega))
  have s0 := gA.cell 0
  have sf0 := gA.free 0
  have s1 := gA.cell 1
  have sf1 := gA.free 1
  have s2 := gA.cell 2
  have sf2 := gA.free 2
  have sl := gA.lt
  have t0 := gB.cell 0
  have tf0 := gB.free 0
  have t1 := gB.cell 1
  have tf1 := gB.free 1
  have t2 := gB.cell 2
  have tf2 := gB.free 2
  have tl := gB.lt
  simp at s0 s1 s2 t0 t1 t2
  have HR1 := Lib.hid hR
  clear hR
  clear gA gB
  go_wp2
  refine bodyPost_ret (v := .agg #[.int .i64 0, .bool false, .int .i64 0]) (by simp [results, Try.results19, go_sem, s0, s1, s2, t0, t1, t2]) rfl ⟨rfl, ?_, by (repeat (first | (with_reducible exact Fr.refl _ _) | (with_reducible assumption) | (with_reducible exact Fr.of_nil (by assumption)) | (with_reducible refine Fr.drew ?_) | (with_reducible refine Fr.drewN ?_ _) | (with_reducible refine Fr.alloc ?_ _) | (with_reducible refine Fr.set ?_ _ _ (by first | (intro _; exact rfl) | (intro _; exact .inl rfl) | (intro _; exact .inr rfl) | (intro q; exact absurd q (Nat.lt_irrefl _)) | (intro q; simp at q; omega))) | (with_reducible refine Fr.via ?_ (by assumption)) | (with_reducible refine Fr.comp ?_ (by assumption))))⟩
  exact ⟨u, HR1.out.fr (S := fun x => x = w.heap.size + 2 ∨ x = w.heap.size + 1) (by (repeat (first | (with_reducible exact Fr.refl _ _) | (with_reducible assumption) | (with_reducible exact Fr.of_nil (by assumption)) | (with_reducible refine Fr.drew ?_) | (with_reducible refine Fr.drewN ?_ _) | (with_reducible refine Fr.alloc ?_ _) | (with_reducible refine Fr.set ?_ _ _ (by first | (intro _; exact rfl) | (intro _; exact .inl rfl) | (intro _; exact .inr rfl) | (intro q; exact absurd q (Nat.lt_irrefl _)) | (intro q; simp at q; omega))) | (with_reducible refine Fr.via ?_ (by assumption)) | (with_reducible refine Fr.comp ?_ (by assumption))))) (fun q => by rcases q with q | q <;> omega) (fun q => by rcases q with q | q <;> omega) (fun q => by rcases q with q | q <;> omega), by omega⟩
set_option maxRecDepth 100000 in
theorem ldo_allocNo (rg ba bw sb m u : Nat) (F G B : List Nat) (n : Int) (w : World) (h : RingIs w rg ba bw m ⟨[], F, G, B⟩ u) (hu : u ≤ 900000000000)  :
    Calls Try.prog 19 #[.pointer (some ⟨rg, 0, none⟩), .pointer (some ⟨sb, 0, none⟩), .agg #[.int .i64 1, .int .i64 n]] w fun e w' => e = .returned (.agg #[.int .i64 0, .bool false, .int .i64 2]) ∧ (∃ u', RingIs w' rg ba bw m ⟨[], F, G, B⟩ u' ∧ u' ≤ u + 20) ∧ Fr (RS rg ba bw) w w' := by
  obtain ⟨lr, la, lb⟩ := h.lts
  have HR := Lib.hid h
  have HNE := Lib.hid (show ∀ b, w.heap.size ≤ b → ¬ RS rg ba bw b from fun b hb q => by rcases q with q | q | q <;> omega)
  clear h
  go_enter Try.func19, Try.ntmps19
  go_wp2_with fail
  refine (ralloc_none rg ba bw m u _ F G B (HR.out.fr (S := Nil) (by (repeat (first | (with_reducible exact Fr.refl _ _) | (with_reducible assumption) | (with_reducible exact Fr.of_nil (by assumption)) | (with_reducible refine Fr.drew ?_) | (with_reducible refine Fr.drewN ?_ _) | (with_reducible refine Fr.alloc ?_ _) | (with_reducible refine Fr.set ?_ _ _ (by first | (intros; omega) | (simp; done) | (simp; omega))) | (with_reducible refine Fr.via ?_ (by assumption)) | (with_reducible refine Fr.comp ?_ (by assumption))))) (fun q => q) (fun q => q) (fun q => q))).mono ?_
  rintro e w1 ⟨rfl, f1⟩
  have gA := f1.blk (b := w.heap.size + 1) (c := #[.int .i64 0, .bool false, .int .i64 0]) (t := 47) (by (unfold Blk; simp (disch := first | omega | (simp; done) | (simp; omega)) only [hp_drew, hp_drewN, hp_alloc, hp_other, hp_same, hp_new, upd_cells, Option.map_some])) (fun q => q)
  have gB := f1.blk (b := w.heap.size + 2) (c := #[.int .i64 0, .bool false, .int .i64 0]) (t := 47) (by (unfold Blk; simp (disch := first | omega | (simp; done) | (simp; omega)) only [hp_drew, hp_drewN, hp_alloc, hp_other, hp_same, hp_new, upd_cells, Option.map_some])) (fun q => q)
  have s0 := gA.cell 0
  have sf0 := gA.free 0
  have s1 := gA.cell 1
  have sf1 := gA.free 1
  have s2 := gA.cell 2
  have sf2 := gA.free 2
  have sl := gA.lt
  have t0 := gB.cell 0
  have tf0 := gB.free 0
  have t1 := gB.cell 1
  have tf1 := gB.free 1
  have t2 := gB.cell 2
  have tf2 := gB.free 2
  have tl := gB.lt
  simp at s0 s1 s2 t0 t1 t2
  clear gA gB
  go_wp2
  refine bodyPost_ret (v := .agg #[.int .i64 0, .bool false, .int .i64 2]) (by simp [results, Try.results19, go_sem, s0, s1, s2, t0, t1, t2]) rfl ⟨rfl, ?_, by (repeat (first | (with_reducible exact Fr.refl _ _) | (with_reducible assumption) | (with_reducible exact Fr.of_nil (by assumption)) | (with_reducible refine Fr.drew ?_) | (with_reducible refine Fr.drewN ?_ _) | (with_reducible refine Fr.alloc ?_ _) | (with_reducible refine Fr.set ?_ _ _ (by first | (intro _; exact rfl) | (intro _; exact .inl rfl) | (intro _; exact .inr rfl) | (intro q; exact absurd q (Nat.lt_irrefl _)) | (intro q; simp at q; omega))) | (with_reducible refine Fr.via ?_ (by assumption)) | (with_reducible refine Fr.comp ?_ (by assumption))))⟩
  exact ⟨u, HR.out.fr (S := Nil) (by (repeat (first | (with_reducible exact Fr.refl _ _) | (with_reducible assumption) | (with_reducible exact Fr.of_nil (by assumption)) | (with_reducible refine Fr.drew ?_) | (with_reducible refine Fr.drewN ?_ _) | (with_reducible refine Fr.alloc ?_ _) | (with_reducible refine Fr.set ?_ _ _ (by first | (intros; omega) | (simp; done) | (simp; omega))) | (with_reducible refine Fr.via ?_ (by assumption)) | (with_reducible refine Fr.comp ?_ (by assumption))))) (fun q => q) (fun q => q) (fun q => q), by omega⟩
set_option maxRecDepth 100000 in
theorem ldo_alloc (rg ba bw sb m u : Nat) (W F G B : List Nat) (c : Nat) (n : Int) (w : World) (h : RingIs w rg ba bw m ⟨c :: W, F, G, B⟩ u) (hu : u ≤ 900000000000)  :
    Calls Try.prog 19 #[.pointer (some ⟨rg, 0, none⟩), .pointer (some ⟨sb, 0, none⟩), .agg #[.int .i64 1, .int .i64 n]] w fun e w' => e = .returned (.agg #[.int .i64 (c : Int), .bool false, .int .i64 0]) ∧ (∃ u', RingIs w' rg ba bw m ⟨W, F, G, B ++ [c]⟩ u' ∧ u' ≤ u + 20) ∧ Fr (RS rg ba bw) w w' := by
  obtain ⟨lr, la, lb⟩ := h.lts
  have HR := Lib.hid h
  have HNE := Lib.hid (show ∀ b, w.heap.size ≤ b → ¬ RS rg ba bw b from fun b hb q => by rcases q with q | q | q <;> omega)
  clear h
  go_enter Try.func19, Try.ntmps19
  go_wp2_with fail
  refine (ralloc_some rg ba bw m u _ W F G B c (HR.out.fr (S := Nil) (by (repeat (first | (with_reducible exact Fr.refl _ _) | (with_reducible assumption) | (with_reducible exact Fr.of_nil (by assumption)) | (with_reducible refine Fr.drew ?_) | (with_reducible refine Fr.drewN ?_ _) | (with_reducible refine Fr.alloc ?_ _) | (with_reducible refine Fr.set ?_ _ _ (by first | (intros; omega) | (simp; done) | (simp; omega))) | (with_reducible refine Fr.via ?_ (by assumption)) | (with_reducible refine Fr.comp ?_ (by assumption))))) (fun q => q) (fun q => q) (fun q => q)) hu).mono ?_
  rintro e w1 ⟨rfl, ⟨u', hR, hu'⟩, f1⟩
  have gA := f1.blk (b := w.heap.size + 1) (c := #[.int .i64 0, .bool false, .int .i64 0]) (t := 47) (by (unfold Blk; simp (disch := first | omega | (simp; done) | (simp; omega)) only [hp_drew, hp_drewN, hp_alloc, hp_other, hp_same, hp_new, upd_cells, Option.map_some])) (HNE.out _ (by omega))
  have gB := f1.blk (b := w.heap.size + 2) (c := #[.int .i64 0, .bool false, .int .i64 0]) (t := 47) (by (unfold Blk; simp (disch := first | omega | (simp; done) | (simp; omega)) only [hp_drew, hp_drewN, hp_alloc, hp_other, hp_same, hp_new, upd_cells, Option.map_some])) (HNE.out _ (by omega))
  have s0 := gA.cell 0
  have sf0 := gA.free 0
  have s1 := gA.cell 1
  have sf1 := gA.free 1
  have s2 := gA.cell 2
  have sf2 := gA.free 2
  have sl := gA.lt
  have t0 := gB.cell 0
  have tf0 := gB.free 0
  have t1 := gB.cell 1
  have tf1 := gB.free 1
  have t2 := gB.cell 2
  have tf2 := gB.free 2
  have tl := gB.lt
  simp at s0 s1 s2 t0 t1 t2
  have HR1 := Lib.hid hR
  clear hR
  clear gA gB
  go_wp2
  refine bodyPost_ret (v := .agg #[.int .i64 (c : Int), .bool false, .int .i64 0]) (by simp [results, Try.results19, go_sem, s0, s1, s2, t0, t1, t2]) rfl ⟨rfl, ?_, by (repeat (first | (with_reducible exact Fr.refl _ _) | (with_reducible assumption) | (with_reducible exact Fr.of_nil (by assumption)) | (with_reducible refine Fr.drew ?_) | (with_reducible refine Fr.drewN ?_ _) | (with_reducible refine Fr.alloc ?_ _) | (with_reducible refine Fr.set ?_ _ _ (by first | (intro _; exact rfl) | (intro _; exact .inl rfl) | (intro _; exact .inr rfl) | (intro q; exact absurd q (Nat.lt_irrefl _)) | (intro q; simp at q; omega))) | (with_reducible refine Fr.via ?_ (by assumption)) | (with_reducible refine Fr.comp ?_ (by assumption))))⟩
  exact ⟨u', HR1.out.fr (S := fun x => x = w.heap.size + 2 ∨ x = w.heap.size + 1) (by (repeat (first | (with_reducible exact Fr.refl _ _) | (with_reducible assumption) | (with_reducible exact Fr.of_nil (by assumption)) | (with_reducible refine Fr.drew ?_) | (with_reducible refine Fr.drewN ?_ _) | (with_reducible refine Fr.alloc ?_ _) | (with_reducible refine Fr.set ?_ _ _ (by first | (intro _; exact rfl) | (intro _; exact .inl rfl) | (intro _; exact .inr rfl) | (intro q; exact absurd q (Nat.lt_irrefl _)) | (intro q; simp at q; omega))) | (with_reducible refine Fr.via ?_ (by assumption)) | (with_reducible refine Fr.comp ?_ (by assumption))))) (fun q => by rcases q with q | q <;> omega) (fun q => by rcases q with q | q <;> omega) (fun q => by rcases q with q | q <;> omega), by omega⟩
set_option maxRecDepth 100000 in
theorem ldo_dropNo (rg ba bw sb m u : Nat) (F G B : List Nat) (k n : Int) (w : World) (h : RingIs w rg ba bw m ⟨[], F, G, B⟩ u) (hu : u ≤ 900000000000) (hk : k < 0 ∨ 6 < k) :
    Calls Try.prog 19 #[.pointer (some ⟨rg, 0, none⟩), .pointer (some ⟨sb, 0, none⟩), .agg #[.int .i64 k, .int .i64 n]] w fun e w' => e = .returned (.agg #[.int .i64 0, .bool false, .int .i64 2]) ∧ (∃ u', RingIs w' rg ba bw m ⟨[], F, G, B⟩ u' ∧ u' ≤ u + 20) ∧ Fr (RS rg ba bw) w w' := by
  obtain ⟨lr, la, lb⟩ := h.lts
  have HR := Lib.hid h
  have HNE := Lib.hid (show ∀ b, w.heap.size ≤ b → ¬ RS rg ba bw b from fun b hb q => by rcases q with q | q | q <;> omega)
  have b0 : (k == 0) = false := by simp; omega
  have b1 : (k == 1) = false := by simp; omega
  have b2 : (k == 2) = false := by simp; omega
  have b3 : (k == 3) = false := by simp; omega
  have b4 : (k == 4) = false := by simp; omega
  have b5 : (k == 5) = false := by simp; omega
  have b6 : (k == 6) = false := by simp; omega
  clear hk
  clear h
  go_enter Try.func19, Try.ntmps19
  go_wp2_with fail
  refine (rdrop_none rg ba bw m u _ F G B (HR.out.fr (S := Nil) (by (repeat (first | (with_reducible exact Fr.refl _ _) | (with_reducible assumption) | (with_reducible exact Fr.of_nil (by assumption)) | (with_reducible refine Fr.drew ?_) | (with_reducible refine Fr.drewN ?_ _) | (with_reducible refine Fr.alloc ?_ _) | (with_reducible refine Fr.set ?_ _ _ (by first | (intros; omega) | (simp; done) | (simp; omega))) | (with_reducible refine Fr.via ?_ (by assumption)) | (with_reducible refine Fr.comp ?_ (by assumption))))) (fun q => q) (fun q => q) (fun q => q))).mono ?_
  rintro e w1 ⟨rfl, f1⟩
  have gA := f1.blk (b := w.heap.size + 1) (c := #[.int .i64 0, .bool false, .int .i64 0]) (t := 47) (by (unfold Blk; simp (disch := first | omega | (simp; done) | (simp; omega)) only [hp_drew, hp_drewN, hp_alloc, hp_other, hp_same, hp_new, upd_cells, Option.map_some])) (fun q => q)
  have gB := f1.blk (b := w.heap.size + 2) (c := #[.int .i64 0, .bool false, .int .i64 0]) (t := 47) (by (unfold Blk; simp (disch := first | omega | (simp; done) | (simp; omega)) only [hp_drew, hp_drewN, hp_alloc, hp_other, hp_same, hp_new, upd_cells, Option.map_some])) (fun q => q)
  have s0 := gA.cell 0
  have sf0 := gA.free 0
  have s1 := gA.cell 1
  have sf1 := gA.free 1
  have s2 := gA.cell 2
  have sf2 := gA.free 2
  have sl := gA.lt
  have t0 := gB.cell 0
  have tf0 := gB.free 0
  have t1 := gB.cell 1
  have tf1 := gB.free 1
  have t2 := gB.cell 2
  have tf2 := gB.free 2
  have tl := gB.lt
  simp at s0 s1 s2 t0 t1 t2
  clear gA gB
  go_wp2
  refine bodyPost_ret (v := .agg #[.int .i64 0, .bool false, .int .i64 2]) (by simp [results, Try.results19, go_sem, s0, s1, s2, t0, t1, t2]) rfl ⟨rfl, ?_, by (repeat (first | (with_reducible exact Fr.refl _ _) | (with_reducible assumption) | (with_reducible exact Fr.of_nil (by assumption)) | (with_reducible refine Fr.drew ?_) | (with_reducible refine Fr.drewN ?_ _) | (with_reducible refine Fr.alloc ?_ _) | (with_reducible refine Fr.set ?_ _ _ (by first | (intro _; exact rfl) | (intro _; exact .inl rfl) | (intro _; exact .inr rfl) | (intro q; exact absurd q (Nat.lt_irrefl _)) | (intro q; simp at q; omega))) | (with_reducible refine Fr.via ?_ (by assumption)) | (with_reducible refine Fr.comp ?_ (by assumption))))⟩
  exact ⟨u, HR.out.fr (S := Nil) (by (repeat (first | (with_reducible exact Fr.refl _ _) | (with_reducible assumption) | (with_reducible exact Fr.of_nil (by assumption)) | (with_reducible refine Fr.drew ?_) | (with_reducible refine Fr.drewN ?_ _) | (with_reducible refine Fr.alloc ?_ _) | (with_reducible refine Fr.set ?_ _ _ (by first | (intros; omega) | (simp; done) | (simp; omega))) | (with_reducible refine Fr.via ?_ (by assumption)) | (with_reducible refine Fr.comp ?_ (by assumption))))) (fun q => q) (fun q => q) (fun q => q), by omega⟩
set_option maxRecDepth 100000 in
theorem ldo_drop (rg ba bw sb m u : Nat) (W F G B : List Nat) (c : Nat) (k n : Int) (w : World) (h : RingIs w rg ba bw m ⟨c :: W, F, G, B⟩ u) (hu : u ≤ 900000000000) (hk : k < 0 ∨ 6 < k) :
    Calls Try.prog 19 #[.pointer (some ⟨rg, 0, none⟩), .pointer (some ⟨sb, 0, none⟩), .agg #[.int .i64 k, .int .i64 n]] w fun e w' => e = .returned (.agg #[.int .i64 (c : Int), .bool false, .int .i64 0]) ∧ (∃ u', RingIs w' rg ba bw m ⟨W, F, G, B⟩ u' ∧ u' ≤ u + 20) ∧ Fr (RS rg ba bw) w w' := by
  obtain ⟨lr, la, lb⟩ := h.lts
  have HR := Lib.hid h
  have HNE := Lib.hid (show ∀ b, w.heap.size ≤ b → ¬ RS rg ba bw b from fun b hb q => by rcases q with q | q | q <;> omega)
  have b0 : (k == 0) = false := by simp; omega
  have b1 : (k == 1) = false := by simp; omega
  have b2 : (k == 2) = false := by simp; omega
  have b3 : (k == 3) = false := by simp; omega
  have b4 : (k == 4) = false := by simp; omega
  have b5 : (k == 5) = false := by simp; omega
  have b6 : (k == 6) = false := by simp; omega
  clear hk
  clear h
  go_enter Try.func19, Try.ntmps19
  go_wp2_with fail
  refine (rdrop_some rg ba bw m u _ W F G B c (HR.out.fr (S := Nil) (by (repeat (first | (with_reducible exact Fr.refl _ _) | (with_reducible assumption) | (with_reducible exact Fr.of_nil (by assumption)) | (with_reducible refine Fr.drew ?_) | (with_reducible refine Fr.drewN ?_ _) | (with_reducible refine Fr.alloc ?_ _) | (with_reducible refine Fr.set ?_ _ _ (by first | (intros; omega) | (simp; done) | (simp; omega))) | (with_reducible refine Fr.via ?_ (by assumption)) | (with_reducible refine Fr.comp ?_ (by assumption))))) (fun q => q) (fun q => q) (fun q => q)) hu).mono ?_
  rintro e w1 ⟨rfl, ⟨u', hR, hu'⟩, f1⟩
  have gA := f1.blk (b := w.heap.size + 1) (c := #[.int .i64 0, .bool false, .int .i64 0]) (t := 47) (by (unfold Blk; simp (disch := first | omega | (simp; done) | (simp; omega)) only [hp_drew, hp_drewN, hp_alloc, hp_other, hp_same, hp_new, upd_cells, Option.map_some])) (HNE.out _ (by omega))
  have gB := f1.blk (b := w.heap.size + 2) (c := #[.int .i64 0, .bool false, .int .i64 0]) (t := 47) (by (unfold Blk; simp (disch := first | omega | (simp; done) | (simp; omega)) only [hp_drew, hp_drewN, hp_alloc, hp_other, hp_same, hp_new, upd_cells, Option.map_some])) (HNE.out _ (by omega))
  have s0 := gA.cell 0
  have sf0 := gA.free 0
  have s1 := gA.cell 1
  have sf1 := gA.free 1
  have s2 := gA.cell 2
  have sf2 := gA.free 2
  have sl := gA.lt
  have t0 := gB.cell 0
  have tf0 := gB.free 0
  have t1 := gB.cell 1
  have tf1 := gB.free 1
  have t2 := gB.cell 2
  have tf2 := gB.free 2
  have tl := gB.lt
  simp at s0 s1 s2 t0 t1 t2
  have HR1 := Lib.hid hR
  clear hR
  clear gA gB
  go_wp2
  refine bodyPost_ret (v := .agg #[.int .i64 (c : Int), .bool false, .int .i64 0]) (by simp [results, Try.results19, go_sem, s0, s1, s2, t0, t1, t2]) rfl ⟨rfl, ?_, by (repeat (first | (with_reducible exact Fr.refl _ _) | (with_reducible assumption) | (with_reducible exact Fr.of_nil (by assumption)) | (with_reducible refine Fr.drew ?_) | (with_reducible refine Fr.drewN ?_ _) | (with_reducible refine Fr.alloc ?_ _) | (with_reducible refine Fr.set ?_ _ _ (by first | (intro _; exact rfl) | (intro _; exact .inl rfl) | (intro _; exact .inr rfl) | (intro q; exact absurd q (Nat.lt_irrefl _)) | (intro q; simp at q; omega))) | (with_reducible refine Fr.via ?_ (by assumption)) | (with_reducible refine Fr.comp ?_ (by assumption))))⟩
  exact ⟨u', HR1.out.fr (S := fun x => x = w.heap.size + 2 ∨ x = w.heap.size + 1) (by (repeat (first | (with_reducible exact Fr.refl _ _) | (with_reducible assumption) | (with_reducible exact Fr.of_nil (by assumption)) | (with_reducible refine Fr.drew ?_) | (with_reducible refine Fr.drewN ?_ _) | (with_reducible refine Fr.alloc ?_ _) | (with_reducible refine Fr.set ?_ _ _ (by first | (intro _; exact rfl) | (intro _; exact .inl rfl) | (intro _; exact .inr rfl) | (intro q; exact absurd q (Nat.lt_irrefl _)) | (intro q; simp at q; omega))) | (with_reducible refine Fr.via ?_ (by assumption)) | (with_reducible refine Fr.comp ?_ (by assumption))))) (fun q => by rcases q with q | q <;> omega) (fun q => by rcases q with q | q <;> omega) (fun q => by rcases q with q | q <;> omega), by omega⟩
set_option maxRecDepth 100000 in
theorem ldo_shadeNo (rg ba bw sb m u : Nat) {X : Nat → Prop} (W G B : List Nat) (n : Int) (w : World) (h : RingIs w rg ba bw m ⟨W, [], G, B⟩ u) (hu : u ≤ 900000000000) (hS : RefR w X sb m ⟨W, [], G, B⟩) :
    Calls Try.prog 19 #[.pointer (some ⟨rg, 0, none⟩), .pointer (some ⟨sb, 0, none⟩), .agg #[.int .i64 2, .int .i64 n]] w fun e w' => e = .returned (.agg #[.int .i64 0, .bool false, .int .i64 20]) ∧ (∃ u', RingIs w' rg ba bw m ⟨W, [], G, B⟩ u' ∧ u' ≤ u + 20) ∧ Fr (RS rg ba bw) w w' := by
  obtain ⟨lr, la, lb⟩ := h.lts
  have HR := Lib.hid h
  have HNE := Lib.hid (show ∀ b, w.heap.size ≤ b → ¬ RS rg ba bw b from fun b hb q => by rcases q with q | q | q <;> omega)
  have HSS := Lib.hid hS
  clear hS
  clear h
  go_enter Try.func19, Try.ntmps19
  go_wp2_with fail
  refine (shaded_none sb m ⟨W, [], G, B⟩ n _ (HSS.out.fr (by (repeat (first | (with_reducible exact Fr.refl _ _) | (with_reducible assumption) | (with_reducible exact Fr.of_nil (by assumption)) | (with_reducible refine Fr.drew ?_) | (with_reducible refine Fr.drewN ?_ _) | (with_reducible refine Fr.alloc ?_ _) | (with_reducible refine Fr.set ?_ _ _ (by first | (intros; omega) | (simp; done) | (simp; omega))) | (with_reducible refine Fr.via ?_ (by assumption)) | (with_reducible refine Fr.comp ?_ (by assumption)))))) rfl).mono ?_
  rintro e w0 ⟨rfl, f0⟩
  have fw0 : Fr Nil w w0 := by (repeat (first | (with_reducible exact Fr.refl _ _) | (with_reducible assumption) | (with_reducible exact Fr.of_nil (by assumption)) | (with_reducible refine Fr.drew ?_) | (with_reducible refine Fr.drewN ?_ _) | (with_reducible refine Fr.alloc ?_ _) | (with_reducible refine Fr.set ?_ _ _ (by first | (intros; omega) | (simp; done) | (simp; omega))) | (with_reducible refine Fr.via ?_ (by assumption)) | (with_reducible refine Fr.comp ?_ (by assumption))))
  obtain ⟨_, _, _⟩ := f0.at (w.heap.size) (by first | assumption | omega | (simp; done) | (simp; omega)); obtain ⟨_, _, _⟩ := f0.at (w.heap.size + 1) (by first | assumption | omega | (simp; done) | (simp; omega)); obtain ⟨_, _, _⟩ := f0.at (w.heap.size + 1 + 1) (by first | assumption | omega | (simp; done) | (simp; omega))
  go_wp2_with fail
  refine (rshade_none rg ba bw m u _ W G B 0 (HR.out.fr (S := Nil) (by (repeat (first | (with_reducible exact Fr.refl _ _) | (with_reducible assumption) | (with_reducible exact Fr.of_nil (by assumption)) | (with_reducible refine Fr.drew ?_) | (with_reducible refine Fr.drewN ?_ _) | (with_reducible refine Fr.alloc ?_ _) | (with_reducible refine Fr.set ?_ _ _ (by first | (intros; omega) | (simp; done) | (simp; omega))) | (with_reducible refine Fr.via ?_ (by assumption)) | (with_reducible refine Fr.comp ?_ (by assumption))))) (fun q => q) (fun q => q) (fun q => q))).mono ?_
  rintro e w1 ⟨rfl, f1⟩
  have g01 := f0.blk (b := w.heap.size + 1) (c := #[.int .i64 0, .bool false, .int .i64 0]) (t := 47) (by (unfold Blk; simp (disch := first | omega | (simp; done) | (simp; omega)) only [hp_drew, hp_drewN, hp_alloc, hp_other, hp_same, hp_new, upd_cells, Option.map_some])) (fun q => q)
  have g02 := f0.blk (b := w.heap.size + 2) (c := #[.int .i64 0, .bool false, .int .i64 0]) (t := 47) (by (unfold Blk; simp (disch := first | omega | (simp; done) | (simp; omega)) only [hp_drew, hp_drewN, hp_alloc, hp_other, hp_same, hp_new, upd_cells, Option.map_some])) (fun q => q)
  have gA := f1.blk g01 (fun q => q)
  have gB := f1.blk g02 (fun q => q)
  have s0 := gA.cell 0
  have sf0 := gA.free 0
  have s1 := gA.cell 1
  have sf1 := gA.free 1
  have s2 := gA.cell 2
  have sf2 := gA.free 2
  have sl := gA.lt
  have t0 := gB.cell 0
  have tf0 := gB.free 0
  have t1 := gB.cell 1
  have tf1 := gB.free 1
  have t2 := gB.cell 2
  have tf2 := gB.free 2
  have tl := gB.lt
  simp at s0 s1 s2 t0 t1 t2
  clear gA gB
  go_wp2
  refine bodyPost_ret (v := .agg #[.int .i64 0, .bool false, .int .i64 20]) (by simp [results, Try.results19, go_sem, s0, s1, s2, t0, t1, t2]) rfl ⟨rfl, ?_, by (repeat (first | (with_reducible exact Fr.refl _ _) | (with_reducible assumption) | (with_reducible exact Fr.of_nil (by assumption)) | (with_reducible refine Fr.drew ?_) | (with_reducible refine Fr.drewN ?_ _) | (with_reducible refine Fr.alloc ?_ _) | (with_reducible refine Fr.set ?_ _ _ (by first | (intro _; exact rfl) | (intro _; exact .inl rfl) | (intro _; exact .inr rfl) | (intro q; exact absurd q (Nat.lt_irrefl _)) | (intro q; simp at q; omega))) | (with_reducible refine Fr.via ?_ (by assumption)) | (with_reducible refine Fr.comp ?_ (by assumption))))⟩
  exact ⟨u, HR.out.fr (S := Nil) (by (repeat (first | (with_reducible exact Fr.refl _ _) | (with_reducible assumption) | (with_reducible exact Fr.of_nil (by assumption)) | (with_reducible refine Fr.drew ?_) | (with_reducible refine Fr.drewN ?_ _) | (with_reducible refine Fr.alloc ?_ _) | (with_reducible refine Fr.set ?_ _ _ (by first | (intros; omega) | (simp; done) | (simp; omega))) | (with_reducible refine Fr.via ?_ (by assumption)) | (with_reducible refine Fr.comp ?_ (by assumption))))) (fun q => q) (fun q => q) (fun q => q), by omega⟩
set_option maxRecDepth 100000 in
theorem ldo_shade (rg ba bw sb m u : Nat) {X : Nat → Prop} (W F1 F2 G B : List Nat) (c : Nat) (n : Int) (w : World) (h : RingIs w rg ba bw m ⟨W, F1 ++ c :: F2, G, B⟩ u) (hu : u ≤ 900000000000) (hS : RefR w X sb m ⟨W, F1 ++ c :: F2, G, B⟩) (hl : (F1 ++ c :: F2).length ≤ 100000) (hn : (n.tmod ((F1 ++ c :: F2).length : Int)).natAbs = F1.length) :
    Calls Try.prog 19 #[.pointer (some ⟨rg, 0, none⟩), .pointer (some ⟨sb, 0, none⟩), .agg #[.int .i64 2, .int .i64 n]] w fun e w' => e = .returned (.agg #[.int .i64 0, .bool false, .int .i64 0]) ∧ (∃ u', RingIs w' rg ba bw m ⟨W, F1 ++ F2, G ++ [c], B⟩ u' ∧ u' ≤ u + 20) ∧ Fr (RS rg ba bw) w w' := by
  obtain ⟨lr, la, lb⟩ := h.lts
  have HR := Lib.hid h
  have HNE := Lib.hid (show ∀ b, w.heap.size ≤ b → ¬ RS rg ba bw b from fun b hb q => by rcases q with q | q | q <;> omega)
  have HSS := Lib.hid hS
  clear hS
  have HN := Lib.hid hn
  clear hn
  clear h
  go_enter Try.func19, Try.ntmps19
  go_wp2_with fail
  refine (shaded_some sb m ⟨W, F1 ++ c :: F2, G, B⟩ n F1 F2 c _ (HSS.out.fr (by (repeat (first | (with_reducible exact Fr.refl _ _) | (with_reducible assumption) | (with_reducible exact Fr.of_nil (by assumption)) | (with_reducible refine Fr.drew ?_) | (with_reducible refine Fr.drewN ?_ _) | (with_reducible refine Fr.alloc ?_ _) | (with_reducible refine Fr.set ?_ _ _ (by first | (intros; omega) | (simp; done) | (simp; omega))) | (with_reducible refine Fr.via ?_ (by assumption)) | (with_reducible refine Fr.comp ?_ (by assumption)))))) rfl hl HN.out).mono ?_
  rintro e w0 ⟨rfl, f0⟩
  have fw0 : Fr Nil w w0 := by (repeat (first | (with_reducible exact Fr.refl _ _) | (with_reducible assumption) | (with_reducible exact Fr.of_nil (by assumption)) | (with_reducible refine Fr.drew ?_) | (with_reducible refine Fr.drewN ?_ _) | (with_reducible refine Fr.alloc ?_ _) | (with_reducible refine Fr.set ?_ _ _ (by first | (intros; omega) | (simp; done) | (simp; omega))) | (with_reducible refine Fr.via ?_ (by assumption)) | (with_reducible refine Fr.comp ?_ (by assumption))))
  have hmx : ¬ ((c : Int) < 0) := by omega
  have g01 := f0.blk (b := w.heap.size + 1) (c := #[.int .i64 0, .bool false, .int .i64 0]) (t := 47) (by (unfold Blk; simp (disch := first | omega | (simp; done) | (simp; omega)) only [hp_drew, hp_drewN, hp_alloc, hp_other, hp_same, hp_new, upd_cells, Option.map_some])) (fun q => q)
  have g02 := f0.blk (b := w.heap.size + 2) (c := #[.int .i64 0, .bool false, .int .i64 0]) (t := 47) (by (unfold Blk; simp (disch := first | omega | (simp; done) | (simp; omega)) only [hp_drew, hp_drewN, hp_alloc, hp_other, hp_same, hp_new, upd_cells, Option.map_some])) (fun q => q)
  go_wp2_with fail
  refine (rshade_any rg ba bw m u _ W F1 F2 G B c (HR.out.fr (S := Nil) (by (repeat (first | (with_reducible exact Fr.refl _ _) | (with_reducible assumption) | (with_reducible exact Fr.of_nil (by assumption)) | (with_reducible refine Fr.drew ?_) | (with_reducible refine Fr.drewN ?_ _) | (with_reducible refine Fr.alloc ?_ _) | (with_reducible refine Fr.set ?_ _ _ (by first | (intros; omega) | (simp; done) | (simp; omega))) | (with_reducible refine Fr.via ?_ (by assumption)) | (with_reducible refine Fr.comp ?_ (by assumption))))) (fun q => q) (fun q => q) (fun q => q)) hu).mono ?_
  rintro e w1 ⟨rfl, ⟨u', hR, hu'⟩, f1⟩
  have gA := f1.blk g01 (HNE.out _ (by omega))
  have gB := f1.blk g02 (HNE.out _ (by omega))
  have s0 := gA.cell 0
  have sf0 := gA.free 0
  have s1 := gA.cell 1
  have sf1 := gA.free 1
  have s2 := gA.cell 2
  have sf2 := gA.free 2
  have sl := gA.lt
  have t0 := gB.cell 0
  have tf0 := gB.free 0
  have t1 := gB.cell 1
  have tf1 := gB.free 1
  have t2 := gB.cell 2
  have tf2 := gB.free 2
  have tl := gB.lt
  simp at s0 s1 s2 t0 t1 t2
  have HR1 := Lib.hid hR
  clear hR
  clear gA gB
  go_wp2
  refine bodyPost_ret (v := .agg #[.int .i64 0, .bool false, .int .i64 0]) (by simp [results, Try.results19, go_sem, s0, s1, s2, t0, t1, t2]) rfl ⟨rfl, ?_, by (repeat (first | (with_reducible exact Fr.refl _ _) | (with_reducible assumption) | (with_reducible exact Fr.of_nil (by assumption)) | (with_reducible refine Fr.drew ?_) | (with_reducible refine Fr.drewN ?_ _) | (with_reducible refine Fr.alloc ?_ _) | (with_reducible refine Fr.set ?_ _ _ (by first | (intro _; exact rfl) | (intro _; exact .inl rfl) | (intro _; exact .inr rfl) | (intro q; exact absurd q (Nat.lt_irrefl _)) | (intro q; simp at q; omega))) | (with_reducible refine Fr.via ?_ (by assumption)) | (with_reducible refine Fr.comp ?_ (by assumption))))⟩
  exact ⟨u', HR1.out.fr (S := fun x => x = w.heap.size + 2 ∨ x = w.heap.size + 1) (by (repeat (first | (with_reducible exact Fr.refl _ _) | (with_reducible assumption) | (with_reducible exact Fr.of_nil (by assumption)) | (with_reducible refine Fr.drew ?_) | (with_reducible refine Fr.drewN ?_ _) | (with_reducible refine Fr.alloc ?_ _) | (with_reducible refine Fr.set ?_ _ _ (by first | (intro _; exact rfl) | (intro _; exact .inl rfl) | (intro _; exact .inr rfl) | (intro q; exact absurd q (Nat.lt_irrefl _)) | (intro q; simp at q; omega))) | (with_reducible refine Fr.via ?_ (by assumption)) | (with_reducible refine Fr.comp ?_ (by assumption))))) (fun q => by rcases q with q | q <;> omega) (fun q => by rcases q with q | q <;> omega) (fun q => by rcases q with q | q <;> omega), by omega⟩
end Go.Proofs.Ytlpdlhmdhlcdlaa
