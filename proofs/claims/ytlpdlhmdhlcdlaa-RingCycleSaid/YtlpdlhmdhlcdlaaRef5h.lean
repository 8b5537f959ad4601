/-
  The document's ring (layer 5): Do, the ways that hand on. Printed by gen_ref5h.py. Conditions: short rows, small cells.
-/
import Derived.Test.YtlpdlhmdhlcdlaaRef5g
namespace Go.Proofs.Ytlpdlhmdhlcdlaa
set_option linter.unusedSimpArgs false
set_option linter.unusedVariables false
open Go.RowKit Go.Shelf

set_option maxRecDepth 100000 in
theorem ddo_growOut {X : Nat → Prop} (sb m : Nat) (W F G B : List Nat) (n : Int) (w : World) (h : RefR w X sb m ⟨W, F, G, B⟩) (hm : m ≤ 1000000) (hn : n < 1 ∨ (m : Int) - 3 < n) (hX : ∀ b, X b → b < w.heap.size) :
    Calls Try.prog 20 #[.pointer (some ⟨sb, 0, none⟩), .agg #[.int .i64 0, .int .i64 n]] w fun e w' => e = .returned (.agg #[.int .i64 0, .bool false, .int .i64 1]) ∧ RefR w' X sb m ⟨W, F, G, B⟩ ∧ Fr (fun x => x = sb) w w' := by
  have lt := h.lt
  have H := Lib.hid h
  have ne1 : sb ≠ w.heap.size + 1 := by omega
  have ne2 : w.heap.size + 1 ≠ sb := by omega
  have HX := Lib.hid hX
  have HE : Hid (RefR w (fun b => X b ∨ b = w.heap.size + 1) sb m ⟨W, F, G, B⟩) := h.ext (.inl h.at_) (fun b q => q.elim .inl (fun e => .inr (by omega)))
  have HY : ∀ V, Fr Nil w V → w.heap.size + 1 < V.heap.size → ∀ b, (X b ∨ b = w.heap.size + 1) → b < V.heap.size := fun V f hv b q => by
    rcases q with q | q
    · exact Nat.lt_of_lt_of_le (HX.out b q) f.size
    · omega
  clear h hX
  go_enter Try.func20, Try.ntmps20
  go_wp2_with fail
  refine (dgrow_out sb m ⟨W, F, G, B⟩ n _ (H.out.fr (by (repeat (first | (with_reducible exact Fr.refl _ _) | (with_reducible assumption) | (with_reducible exact Fr.of_nil (by assumption)) | (with_reducible refine Fr.drew ?_) | (with_reducible refine Fr.drewN ?_ _) | (with_reducible refine Fr.alloc ?_ _) | (with_reducible refine Fr.set ?_ _ _ (by first | (intros; omega) | (simp; done) | (simp; omega))) | (with_reducible refine Fr.via ?_ (by assumption)) | (with_reducible refine Fr.comp ?_ (by assumption)))))) hm hn).mono ?_
  rintro e w1 ⟨rfl, f1⟩
  have gT := f1.blk (b := w.heap.size + 1) (c := #[.int .i64 0, .bool false, .int .i64 0]) (t := 47) (by (unfold Blk; simp (disch := first | omega | (simp; done) | (simp; omega)) only [hp_drew, hp_drewN, hp_alloc, hp_other, hp_same, hp_new, upd_cells, Option.map_some])) (fun q => q)
  have fw : Fr Nil w w1 := by (repeat (first | (with_reducible exact Fr.refl _ _) | (with_reducible assumption) | (with_reducible exact Fr.of_nil (by assumption)) | (with_reducible refine Fr.drew ?_) | (with_reducible refine Fr.drewN ?_ _) | (with_reducible refine Fr.alloc ?_ _) | (with_reducible refine Fr.set ?_ _ _ (by first | (intros; omega) | (simp; done) | (simp; omega))) | (with_reducible refine Fr.via ?_ (by assumption)) | (with_reducible refine Fr.comp ?_ (by assumption))))
  have hR := H.out.fr fw
  have t0 := gT.cell 0
  have t1 := gT.cell 1
  have t2 := gT.cell 2
  have t3 := gT.free 0
  have t4 := gT.free 1
  have t5 := gT.free 2
  have t6 := gT.lt
  simp at t0 t1 t2
  have HR := Lib.hid hR
  clear hR gT
  go_wp2
  refine bodyPost_ret (v := .agg #[.int .i64 0, .bool false, .int .i64 1]) (by simp [results, Try.results20, go_sem, t0, t1, t2]) rfl ⟨rfl, ?_, by (repeat (first | (with_reducible exact Fr.refl _ _) | (with_reducible assumption) | (with_reducible exact Fr.of_nil (by assumption)) | (with_reducible refine Fr.drew ?_) | (with_reducible refine Fr.drewN ?_ _) | (with_reducible refine Fr.alloc ?_ _) | (with_reducible refine Fr.set ?_ _ _ (by first | (intro _; exact rfl) | (intro _; exact .inl rfl) | (intro _; exact .inr rfl) | (intro q; exact absurd q (Nat.lt_irrefl _)) | (intro q; simp at q; omega))) | (with_reducible refine Fr.via ?_ (by assumption)) | (with_reducible refine Fr.comp ?_ (by assumption))))⟩
  exact H.out.fr (by (repeat (first | (with_reducible exact Fr.refl _ _) | (with_reducible assumption) | (with_reducible exact Fr.of_nil (by assumption)) | (with_reducible refine Fr.drew ?_) | (with_reducible refine Fr.drewN ?_ _) | (with_reducible refine Fr.alloc ?_ _) | (with_reducible refine Fr.set ?_ _ _ (by first | (intros; omega) | (simp; done) | (simp; omega))) | (with_reducible refine Fr.via ?_ (by assumption)) | (with_reducible refine Fr.comp ?_ (by assumption)))))
set_option maxRecDepth 100000 in
theorem ddo_growIn {X : Nat → Prop} (sb m : Nat) (W F G B : List Nat) (w : World) (h : RefR w X sb m ⟨W, F, G, B⟩) (hm : m ≤ 1000000) (c : Nat) (h1c : 1 ≤ c) (h2c : c + 3 ≤ m) (hl : W.length ≤ 100000) (hX : ∀ b, X b → b < w.heap.size) :
    Calls Try.prog 20 #[.pointer (some ⟨sb, 0, none⟩), .agg #[.int .i64 0, .int .i64 (c : Int)]] w fun e w' => e = .returned (.agg #[.int .i64 0, .bool false, .int .i64 0]) ∧ RefR w' X sb m ⟨c :: W, F, G, B⟩ ∧ Fr (fun x => x = sb) w w' := by
  have lt := h.lt
  have H := Lib.hid h
  have ne1 : sb ≠ w.heap.size + 1 := by omega
  have ne2 : w.heap.size + 1 ≠ sb := by omega
  have HX := Lib.hid hX
  have HE : Hid (RefR w (fun b => X b ∨ b = w.heap.size + 1) sb m ⟨W, F, G, B⟩) := h.ext (.inl h.at_) (fun b q => q.elim .inl (fun e => .inr (by omega)))
  have HY : ∀ V, Fr Nil w V → w.heap.size + 1 < V.heap.size → ∀ b, (X b ∨ b = w.heap.size + 1) → b < V.heap.size := fun V f hv b q => by
    rcases q with q | q
    · exact Nat.lt_of_lt_of_le (HX.out b q) f.size
    · omega
  clear h hX
  go_enter Try.func20, Try.ntmps20
  go_wp2_with fail
  refine (dgrow_in sb m c W F G B _ (HE.out.fr (by (repeat (first | (with_reducible exact Fr.refl _ _) | (with_reducible assumption) | (with_reducible exact Fr.of_nil (by assumption)) | (with_reducible refine Fr.drew ?_) | (with_reducible refine Fr.drewN ?_ _) | (with_reducible refine Fr.alloc ?_ _) | (with_reducible refine Fr.set ?_ _ _ (by first | (intros; omega) | (simp; done) | (simp; omega))) | (with_reducible refine Fr.via ?_ (by assumption)) | (with_reducible refine Fr.comp ?_ (by assumption)))))) hm h1c h2c hl (HY _ (by (repeat (first | (with_reducible exact Fr.refl _ _) | (with_reducible assumption) | (with_reducible exact Fr.of_nil (by assumption)) | (with_reducible refine Fr.drew ?_) | (with_reducible refine Fr.drewN ?_ _) | (with_reducible refine Fr.alloc ?_ _) | (with_reducible refine Fr.set ?_ _ _ (by first | (intros; omega) | (simp; done) | (simp; omega))) | (with_reducible refine Fr.via ?_ (by assumption)) | (with_reducible refine Fr.comp ?_ (by assumption))))) (by simp))).mono ?_
  rintro e w1 ⟨rfl, hR, f1⟩
  have gT := f1.blk (b := w.heap.size + 1) (c := #[.int .i64 0, .bool false, .int .i64 0]) (t := 47) (by (unfold Blk; simp (disch := first | omega | (simp; done) | (simp; omega)) only [hp_drew, hp_drewN, hp_alloc, hp_other, hp_same, hp_new, upd_cells, Option.map_some])) (fun q => ne2 q)
  have fw : Fr (fun x => x = sb) w w1 := by (repeat (first | (with_reducible exact Fr.refl _ _) | (with_reducible assumption) | (with_reducible exact Fr.of_nil (by assumption)) | (with_reducible refine Fr.drew ?_) | (with_reducible refine Fr.drewN ?_ _) | (with_reducible refine Fr.alloc ?_ _) | (with_reducible refine Fr.set ?_ _ _ (by first | (intro _; exact rfl) | (intro _; exact .inl rfl) | (intro _; exact .inr rfl) | (intro q; exact absurd q (Nat.lt_irrefl _)) | (intro q; simp at q; omega))) | (with_reducible refine Fr.via ?_ (by assumption)) | (with_reducible refine Fr.comp ?_ (by assumption))))
  have t0 := gT.cell 0
  have t1 := gT.cell 1
  have t2 := gT.cell 2
  have t3 := gT.free 0
  have t4 := gT.free 1
  have t5 := gT.free 2
  have t6 := gT.lt
  simp at t0 t1 t2
  have HR := Lib.hid hR
  clear hR gT
  go_wp2
  refine bodyPost_ret (v := .agg #[.int .i64 0, .bool false, .int .i64 0]) (by simp [results, Try.results20, go_sem, t0, t1, t2]) rfl ⟨rfl, ?_, by (repeat (first | (with_reducible exact Fr.refl _ _) | (with_reducible assumption) | (with_reducible exact Fr.of_nil (by assumption)) | (with_reducible refine Fr.drew ?_) | (with_reducible refine Fr.drewN ?_ _) | (with_reducible refine Fr.alloc ?_ _) | (with_reducible refine Fr.set ?_ _ _ (by first | (intro _; exact rfl) | (intro _; exact .inl rfl) | (intro _; exact .inr rfl) | (intro q; exact absurd q (Nat.lt_irrefl _)) | (intro q; simp at q; omega))) | (with_reducible refine Fr.via ?_ (by assumption)) | (with_reducible refine Fr.comp ?_ (by assumption))))⟩
  refine RefR.ext (HR.out.frS (T := fun x => x = w.heap.size + 1) (by (repeat (first | (with_reducible exact Fr.refl _ _) | (with_reducible assumption) | (with_reducible exact Fr.of_nil (by assumption)) | (with_reducible refine Fr.drew ?_) | (with_reducible refine Fr.drewN ?_ _) | (with_reducible refine Fr.alloc ?_ _) | (with_reducible refine Fr.set ?_ _ _ (by first | (intro _; exact rfl) | (intro _; exact .inl rfl) | (intro _; exact .inr rfl) | (intro q; exact absurd q (Nat.lt_irrefl _)) | (intro q; simp at q; omega))) | (with_reducible refine Fr.via ?_ (by assumption)) | (with_reducible refine Fr.comp ?_ (by assumption))))) (fun g q => .inr q) ne1) H.out.at_ (fun b q => .inl (.inl q))
set_option maxRecDepth 100000 in
theorem ddo_shadeNo {X : Nat → Prop} (sb m : Nat) (W F G B : List Nat) (n : Int) (w : World) (h : RefR w X sb m ⟨W, F, G, B⟩) (hF : F = []) (hX : ∀ b, X b → b < w.heap.size) :
    Calls Try.prog 20 #[.pointer (some ⟨sb, 0, none⟩), .agg #[.int .i64 2, .int .i64 n]] w fun e w' => e = .returned (.agg #[.int .i64 0, .bool false, .int .i64 20]) ∧ RefR w' X sb m ⟨W, F, G, B⟩ ∧ Fr (fun x => x = sb) w w' := by
  have lt := h.lt
  have H := Lib.hid h
  have ne1 : sb ≠ w.heap.size + 1 := by omega
  have ne2 : w.heap.size + 1 ≠ sb := by omega
  have HX := Lib.hid hX
  have HE : Hid (RefR w (fun b => X b ∨ b = w.heap.size + 1) sb m ⟨W, F, G, B⟩) := h.ext (.inl h.at_) (fun b q => q.elim .inl (fun e => .inr (by omega)))
  have HY : ∀ V, Fr Nil w V → w.heap.size + 1 < V.heap.size → ∀ b, (X b ∨ b = w.heap.size + 1) → b < V.heap.size := fun V f hv b q => by
    rcases q with q | q
    · exact Nat.lt_of_lt_of_le (HX.out b q) f.size
    · omega
  clear h hX
  go_enter Try.func20, Try.ntmps20
  go_wp2_with fail
  refine (dshade_no sb m ⟨W, F, G, B⟩ n _ (H.out.fr (by (repeat (first | (with_reducible exact Fr.refl _ _) | (with_reducible assumption) | (with_reducible exact Fr.of_nil (by assumption)) | (with_reducible refine Fr.drew ?_) | (with_reducible refine Fr.drewN ?_ _) | (with_reducible refine Fr.alloc ?_ _) | (with_reducible refine Fr.set ?_ _ _ (by first | (intros; omega) | (simp; done) | (simp; omega))) | (with_reducible refine Fr.via ?_ (by assumption)) | (with_reducible refine Fr.comp ?_ (by assumption)))))) hF).mono ?_
  rintro e w1 ⟨rfl, f1⟩
  have gT := f1.blk (b := w.heap.size + 1) (c := #[.int .i64 0, .bool false, .int .i64 0]) (t := 47) (by (unfold Blk; simp (disch := first | omega | (simp; done) | (simp; omega)) only [hp_drew, hp_drewN, hp_alloc, hp_other, hp_same, hp_new, upd_cells, Option.map_some])) (fun q => q)
  have fw : Fr Nil w w1 := by (repeat (first | (with_reducible exact Fr.refl _ _) | (with_reducible assumption) | (with_reducible exact Fr.of_nil (by assumption)) | (with_reducible refine Fr.drew ?_) | (with_reducible refine Fr.drewN ?_ _) | (with_reducible refine Fr.alloc ?_ _) | (with_reducible refine Fr.set ?_ _ _ (by first | (intros; omega) | (simp; done) | (simp; omega))) | (with_reducible refine Fr.via ?_ (by assumption)) | (with_reducible refine Fr.comp ?_ (by assumption))))
  have hR := H.out.fr fw
  have t0 := gT.cell 0
  have t1 := gT.cell 1
  have t2 := gT.cell 2
  have t3 := gT.free 0
  have t4 := gT.free 1
  have t5 := gT.free 2
  have t6 := gT.lt
  simp at t0 t1 t2
  have HR := Lib.hid hR
  clear hR gT
  go_wp2
  refine bodyPost_ret (v := .agg #[.int .i64 0, .bool false, .int .i64 20]) (by simp [results, Try.results20, go_sem, t0, t1, t2]) rfl ⟨rfl, ?_, by (repeat (first | (with_reducible exact Fr.refl _ _) | (with_reducible assumption) | (with_reducible exact Fr.of_nil (by assumption)) | (with_reducible refine Fr.drew ?_) | (with_reducible refine Fr.drewN ?_ _) | (with_reducible refine Fr.alloc ?_ _) | (with_reducible refine Fr.set ?_ _ _ (by first | (intro _; exact rfl) | (intro _; exact .inl rfl) | (intro _; exact .inr rfl) | (intro q; exact absurd q (Nat.lt_irrefl _)) | (intro q; simp at q; omega))) | (with_reducible refine Fr.via ?_ (by assumption)) | (with_reducible refine Fr.comp ?_ (by assumption))))⟩
  exact H.out.fr (by (repeat (first | (with_reducible exact Fr.refl _ _) | (with_reducible assumption) | (with_reducible exact Fr.of_nil (by assumption)) | (with_reducible refine Fr.drew ?_) | (with_reducible refine Fr.drewN ?_ _) | (with_reducible refine Fr.alloc ?_ _) | (with_reducible refine Fr.set ?_ _ _ (by first | (intros; omega) | (simp; done) | (simp; omega))) | (with_reducible refine Fr.via ?_ (by assumption)) | (with_reducible refine Fr.comp ?_ (by assumption)))))
set_option maxRecDepth 100000 in
theorem ddo_shade {X : Nat → Prop} (sb m : Nat) (W F G B : List Nat) (n : Int) (w : World) (h : RefR w X sb m ⟨W, F, G, B⟩) (c : Nat) (F1 F2 : List Nat) (hF : F = F1 ++ c :: F2) (hn : (n.tmod (F.length : Int)).natAbs = F1.length) (hnd : c ∉ F1) (hl : F.length ≤ 100000) (hlG : G.length ≤ 100000) (hX : ∀ b, X b → b < w.heap.size) :
    Calls Try.prog 20 #[.pointer (some ⟨sb, 0, none⟩), .agg #[.int .i64 2, .int .i64 n]] w fun e w' => e = .returned (.agg #[.int .i64 0, .bool false, .int .i64 0]) ∧ RefR w' X sb m ⟨W, F1 ++ F2, G ++ [c], B⟩ ∧ Fr (fun x => x = sb) w w' := by
  have lt := h.lt
  have H := Lib.hid h
  have ne1 : sb ≠ w.heap.size + 1 := by omega
  have ne2 : w.heap.size + 1 ≠ sb := by omega
  have HX := Lib.hid hX
  have HE : Hid (RefR w (fun b => X b ∨ b = w.heap.size + 1) sb m ⟨W, F, G, B⟩) := h.ext (.inl h.at_) (fun b q => q.elim .inl (fun e => .inr (by omega)))
  have HY : ∀ V, Fr Nil w V → w.heap.size + 1 < V.heap.size → ∀ b, (X b ∨ b = w.heap.size + 1) → b < V.heap.size := fun V f hv b q => by
    rcases q with q | q
    · exact Nat.lt_of_lt_of_le (HX.out b q) f.size
    · omega
  clear h hX
  go_enter Try.func20, Try.ntmps20
  go_wp2_with fail
  refine (dshade_some sb m c W F G B F1 F2 n _ (HE.out.fr (by (repeat (first | (with_reducible exact Fr.refl _ _) | (with_reducible assumption) | (with_reducible exact Fr.of_nil (by assumption)) | (with_reducible refine Fr.drew ?_) | (with_reducible refine Fr.drewN ?_ _) | (with_reducible refine Fr.alloc ?_ _) | (with_reducible refine Fr.set ?_ _ _ (by first | (intros; omega) | (simp; done) | (simp; omega))) | (with_reducible refine Fr.via ?_ (by assumption)) | (with_reducible refine Fr.comp ?_ (by assumption)))))) hF hn hnd hl hlG (HY _ (by (repeat (first | (with_reducible exact Fr.refl _ _) | (with_reducible assumption) | (with_reducible exact Fr.of_nil (by assumption)) | (with_reducible refine Fr.drew ?_) | (with_reducible refine Fr.drewN ?_ _) | (with_reducible refine Fr.alloc ?_ _) | (with_reducible refine Fr.set ?_ _ _ (by first | (intros; omega) | (simp; done) | (simp; omega))) | (with_reducible refine Fr.via ?_ (by assumption)) | (with_reducible refine Fr.comp ?_ (by assumption))))) (by simp))).mono ?_
  rintro e w1 ⟨rfl, hR, f1⟩
  have gT := f1.blk (b := w.heap.size + 1) (c := #[.int .i64 0, .bool false, .int .i64 0]) (t := 47) (by (unfold Blk; simp (disch := first | omega | (simp; done) | (simp; omega)) only [hp_drew, hp_drewN, hp_alloc, hp_other, hp_same, hp_new, upd_cells, Option.map_some])) (fun q => ne2 q)
  have fw : Fr (fun x => x = sb) w w1 := by (repeat (first | (with_reducible exact Fr.refl _ _) | (with_reducible assumption) | (with_reducible exact Fr.of_nil (by assumption)) | (with_reducible refine Fr.drew ?_) | (with_reducible refine Fr.drewN ?_ _) | (with_reducible refine Fr.alloc ?_ _) | (with_reducible refine Fr.set ?_ _ _ (by first | (intro _; exact rfl) | (intro _; exact .inl rfl) | (intro _; exact .inr rfl) | (intro q; exact absurd q (Nat.lt_irrefl _)) | (intro q; simp at q; omega))) | (with_reducible refine Fr.via ?_ (by assumption)) | (with_reducible refine Fr.comp ?_ (by assumption))))
  have t0 := gT.cell 0
  have t1 := gT.cell 1
  have t2 := gT.cell 2
  have t3 := gT.free 0
  have t4 := gT.free 1
  have t5 := gT.free 2
  have t6 := gT.lt
  simp at t0 t1 t2
  have HR := Lib.hid hR
  clear hR gT
  go_wp2
  refine bodyPost_ret (v := .agg #[.int .i64 0, .bool false, .int .i64 0]) (by simp [results, Try.results20, go_sem, t0, t1, t2]) rfl ⟨rfl, ?_, by (repeat (first | (with_reducible exact Fr.refl _ _) | (with_reducible assumption) | (with_reducible exact Fr.of_nil (by assumption)) | (with_reducible refine Fr.drew ?_) | (with_reducible refine Fr.drewN ?_ _) | (with_reducible refine Fr.alloc ?_ _) | (with_reducible refine Fr.set ?_ _ _ (by first | (intro _; exact rfl) | (intro _; exact .inl rfl) | (intro _; exact .inr rfl) | (intro q; exact absurd q (Nat.lt_irrefl _)) | (intro q; simp at q; omega))) | (with_reducible refine Fr.via ?_ (by assumption)) | (with_reducible refine Fr.comp ?_ (by assumption))))⟩
  refine RefR.ext (HR.out.frS (T := fun x => x = w.heap.size + 1) (by (repeat (first | (with_reducible exact Fr.refl _ _) | (with_reducible assumption) | (with_reducible exact Fr.of_nil (by assumption)) | (with_reducible refine Fr.drew ?_) | (with_reducible refine Fr.drewN ?_ _) | (with_reducible refine Fr.alloc ?_ _) | (with_reducible refine Fr.set ?_ _ _ (by first | (intro _; exact rfl) | (intro _; exact .inl rfl) | (intro _; exact .inr rfl) | (intro q; exact absurd q (Nat.lt_irrefl _)) | (intro q; simp at q; omega))) | (with_reducible refine Fr.via ?_ (by assumption)) | (with_reducible refine Fr.comp ?_ (by assumption))))) (fun g q => .inr q) ne1) H.out.at_ (fun b q => .inl (.inl q))
set_option maxRecDepth 100000 in
theorem ddo_nextNo {X : Nat → Prop} (sb m : Nat) (W F G B : List Nat) (n : Int) (w : World) (h : RefR w X sb m ⟨W, F, G, B⟩) (hG : G = []) (hX : ∀ b, X b → b < w.heap.size) :
    Calls Try.prog 20 #[.pointer (some ⟨sb, 0, none⟩), .agg #[.int .i64 3, .int .i64 n]] w fun e w' => e = .returned (.agg #[.int .i64 0, .bool false, .int .i64 0]) ∧ RefR w' X sb m ⟨W, F, G, B⟩ ∧ Fr (fun x => x = sb) w w' := by
  have lt := h.lt
  have H := Lib.hid h
  have ne1 : sb ≠ w.heap.size + 1 := by omega
  have ne2 : w.heap.size + 1 ≠ sb := by omega
  have HX := Lib.hid hX
  have HE : Hid (RefR w (fun b => X b ∨ b = w.heap.size + 1) sb m ⟨W, F, G, B⟩) := h.ext (.inl h.at_) (fun b q => q.elim .inl (fun e => .inr (by omega)))
  have HY : ∀ V, Fr Nil w V → w.heap.size + 1 < V.heap.size → ∀ b, (X b ∨ b = w.heap.size + 1) → b < V.heap.size := fun V f hv b q => by
    rcases q with q | q
    · exact Nat.lt_of_lt_of_le (HX.out b q) f.size
    · omega
  clear h hX
  go_enter Try.func20, Try.ntmps20
  go_wp2_with fail
  refine (dnext_no sb m ⟨W, F, G, B⟩ n _ (H.out.fr (by (repeat (first | (with_reducible exact Fr.refl _ _) | (with_reducible assumption) | (with_reducible exact Fr.of_nil (by assumption)) | (with_reducible refine Fr.drew ?_) | (with_reducible refine Fr.drewN ?_ _) | (with_reducible refine Fr.alloc ?_ _) | (with_reducible refine Fr.set ?_ _ _ (by first | (intros; omega) | (simp; done) | (simp; omega))) | (with_reducible refine Fr.via ?_ (by assumption)) | (with_reducible refine Fr.comp ?_ (by assumption)))))) hG).mono ?_
  rintro e w1 ⟨rfl, f1⟩
  have gT := f1.blk (b := w.heap.size + 1) (c := #[.int .i64 0, .bool false, .int .i64 0]) (t := 47) (by (unfold Blk; simp (disch := first | omega | (simp; done) | (simp; omega)) only [hp_drew, hp_drewN, hp_alloc, hp_other, hp_same, hp_new, upd_cells, Option.map_some])) (fun q => q)
  have fw : Fr Nil w w1 := by (repeat (first | (with_reducible exact Fr.refl _ _) | (with_reducible assumption) | (with_reducible exact Fr.of_nil (by assumption)) | (with_reducible refine Fr.drew ?_) | (with_reducible refine Fr.drewN ?_ _) | (with_reducible refine Fr.alloc ?_ _) | (with_reducible refine Fr.set ?_ _ _ (by first | (intros; omega) | (simp; done) | (simp; omega))) | (with_reducible refine Fr.via ?_ (by assumption)) | (with_reducible refine Fr.comp ?_ (by assumption))))
  have hR := H.out.fr fw
  have t0 := gT.cell 0
  have t1 := gT.cell 1
  have t2 := gT.cell 2
  have t3 := gT.free 0
  have t4 := gT.free 1
  have t5 := gT.free 2
  have t6 := gT.lt
  simp at t0 t1 t2
  have HR := Lib.hid hR
  clear hR gT
  go_wp2
  refine bodyPost_ret (v := .agg #[.int .i64 0, .bool false, .int .i64 0]) (by simp [results, Try.results20, go_sem, t0, t1, t2]) rfl ⟨rfl, ?_, by (repeat (first | (with_reducible exact Fr.refl _ _) | (with_reducible assumption) | (with_reducible exact Fr.of_nil (by assumption)) | (with_reducible refine Fr.drew ?_) | (with_reducible refine Fr.drewN ?_ _) | (with_reducible refine Fr.alloc ?_ _) | (with_reducible refine Fr.set ?_ _ _ (by first | (intro _; exact rfl) | (intro _; exact .inl rfl) | (intro _; exact .inr rfl) | (intro q; exact absurd q (Nat.lt_irrefl _)) | (intro q; simp at q; omega))) | (with_reducible refine Fr.via ?_ (by assumption)) | (with_reducible refine Fr.comp ?_ (by assumption))))⟩
  exact H.out.fr (by (repeat (first | (with_reducible exact Fr.refl _ _) | (with_reducible assumption) | (with_reducible exact Fr.of_nil (by assumption)) | (with_reducible refine Fr.drew ?_) | (with_reducible refine Fr.drewN ?_ _) | (with_reducible refine Fr.alloc ?_ _) | (with_reducible refine Fr.set ?_ _ _ (by first | (intros; omega) | (simp; done) | (simp; omega))) | (with_reducible refine Fr.via ?_ (by assumption)) | (with_reducible refine Fr.comp ?_ (by assumption)))))
set_option maxRecDepth 100000 in
theorem ddo_next {X : Nat → Prop} (sb m : Nat) (W F G B : List Nat) (n : Int) (w : World) (h : RefR w X sb m ⟨W, F, G, B⟩) (c : Nat) (G0 : List Nat) (hG : G = G0 ++ [c]) (hl : G.length ≤ 100000) (hX : ∀ b, X b → b < w.heap.size) :
    Calls Try.prog 20 #[.pointer (some ⟨sb, 0, none⟩), .agg #[.int .i64 3, .int .i64 n]] w fun e w' => e = .returned (.agg #[.int .i64 (c : Int), .bool true, .int .i64 0]) ∧ RefR w' X sb m ⟨W, F, G, B⟩ ∧ Fr (fun x => x = sb) w w' := by
  have lt := h.lt
  have H := Lib.hid h
  have ne1 : sb ≠ w.heap.size + 1 := by omega
  have ne2 : w.heap.size + 1 ≠ sb := by omega
  have HX := Lib.hid hX
  have HE : Hid (RefR w (fun b => X b ∨ b = w.heap.size + 1) sb m ⟨W, F, G, B⟩) := h.ext (.inl h.at_) (fun b q => q.elim .inl (fun e => .inr (by omega)))
  have HY : ∀ V, Fr Nil w V → w.heap.size + 1 < V.heap.size → ∀ b, (X b ∨ b = w.heap.size + 1) → b < V.heap.size := fun V f hv b q => by
    rcases q with q | q
    · exact Nat.lt_of_lt_of_le (HX.out b q) f.size
    · omega
  clear h hX
  go_enter Try.func20, Try.ntmps20
  go_wp2_with fail
  refine (dnext_some sb m c G0 ⟨W, F, G, B⟩ n _ (H.out.fr (by (repeat (first | (with_reducible exact Fr.refl _ _) | (with_reducible assumption) | (with_reducible exact Fr.of_nil (by assumption)) | (with_reducible refine Fr.drew ?_) | (with_reducible refine Fr.drewN ?_ _) | (with_reducible refine Fr.alloc ?_ _) | (with_reducible refine Fr.set ?_ _ _ (by first | (intros; omega) | (simp; done) | (simp; omega))) | (with_reducible refine Fr.via ?_ (by assumption)) | (with_reducible refine Fr.comp ?_ (by assumption)))))) hG hl).mono ?_
  rintro e w1 ⟨rfl, f1⟩
  have gT := f1.blk (b := w.heap.size + 1) (c := #[.int .i64 0, .bool false, .int .i64 0]) (t := 47) (by (unfold Blk; simp (disch := first | omega | (simp; done) | (simp; omega)) only [hp_drew, hp_drewN, hp_alloc, hp_other, hp_same, hp_new, upd_cells, Option.map_some])) (fun q => q)
  have fw : Fr Nil w w1 := by (repeat (first | (with_reducible exact Fr.refl _ _) | (with_reducible assumption) | (with_reducible exact Fr.of_nil (by assumption)) | (with_reducible refine Fr.drew ?_) | (with_reducible refine Fr.drewN ?_ _) | (with_reducible refine Fr.alloc ?_ _) | (with_reducible refine Fr.set ?_ _ _ (by first | (intros; omega) | (simp; done) | (simp; omega))) | (with_reducible refine Fr.via ?_ (by assumption)) | (with_reducible refine Fr.comp ?_ (by assumption))))
  have hR := H.out.fr fw
  have t0 := gT.cell 0
  have t1 := gT.cell 1
  have t2 := gT.cell 2
  have t3 := gT.free 0
  have t4 := gT.free 1
  have t5 := gT.free 2
  have t6 := gT.lt
  simp at t0 t1 t2
  have HR := Lib.hid hR
  clear hR gT
  go_wp2
  refine bodyPost_ret (v := .agg #[.int .i64 (c : Int), .bool true, .int .i64 0]) (by simp [results, Try.results20, go_sem, t0, t1, t2]) rfl ⟨rfl, ?_, by (repeat (first | (with_reducible exact Fr.refl _ _) | (with_reducible assumption) | (with_reducible exact Fr.of_nil (by assumption)) | (with_reducible refine Fr.drew ?_) | (with_reducible refine Fr.drewN ?_ _) | (with_reducible refine Fr.alloc ?_ _) | (with_reducible refine Fr.set ?_ _ _ (by first | (intro _; exact rfl) | (intro _; exact .inl rfl) | (intro _; exact .inr rfl) | (intro q; exact absurd q (Nat.lt_irrefl _)) | (intro q; simp at q; omega))) | (with_reducible refine Fr.via ?_ (by assumption)) | (with_reducible refine Fr.comp ?_ (by assumption))))⟩
  exact H.out.fr (by (repeat (first | (with_reducible exact Fr.refl _ _) | (with_reducible assumption) | (with_reducible exact Fr.of_nil (by assumption)) | (with_reducible refine Fr.drew ?_) | (with_reducible refine Fr.drewN ?_ _) | (with_reducible refine Fr.alloc ?_ _) | (with_reducible refine Fr.set ?_ _ _ (by first | (intros; omega) | (simp; done) | (simp; omega))) | (with_reducible refine Fr.via ?_ (by assumption)) | (with_reducible refine Fr.comp ?_ (by assumption)))))
set_option maxRecDepth 100000 in
theorem ddo_doneNo {X : Nat → Prop} (sb m : Nat) (W F G B : List Nat) (n : Int) (w : World) (h : RefR w X sb m ⟨W, F, G, B⟩) (hG : G = []) (hX : ∀ b, X b → b < w.heap.size) :
    Calls Try.prog 20 #[.pointer (some ⟨sb, 0, none⟩), .agg #[.int .i64 4, .int .i64 n]] w fun e w' => e = .returned (.agg #[.int .i64 0, .bool false, .int .i64 18]) ∧ RefR w' X sb m ⟨W, F, G, B⟩ ∧ Fr (fun x => x = sb) w w' := by
  have lt := h.lt
  have H := Lib.hid h
  have ne1 : sb ≠ w.heap.size + 1 := by omega
  have ne2 : w.heap.size + 1 ≠ sb := by omega
  have HX := Lib.hid hX
  have HE : Hid (RefR w (fun b => X b ∨ b = w.heap.size + 1) sb m ⟨W, F, G, B⟩) := h.ext (.inl h.at_) (fun b q => q.elim .inl (fun e => .inr (by omega)))
  have HY : ∀ V, Fr Nil w V → w.heap.size + 1 < V.heap.size → ∀ b, (X b ∨ b = w.heap.size + 1) → b < V.heap.size := fun V f hv b q => by
    rcases q with q | q
    · exact Nat.lt_of_lt_of_le (HX.out b q) f.size
    · omega
  clear h hX
  go_enter Try.func20, Try.ntmps20
  go_wp2_with fail
  refine (ddone_no sb m ⟨W, F, G, B⟩ n _ (H.out.fr (by (repeat (first | (with_reducible exact Fr.refl _ _) | (with_reducible assumption) | (with_reducible exact Fr.of_nil (by assumption)) | (with_reducible refine Fr.drew ?_) | (with_reducible refine Fr.drewN ?_ _) | (with_reducible refine Fr.alloc ?_ _) | (with_reducible refine Fr.set ?_ _ _ (by first | (intros; omega) | (simp; done) | (simp; omega))) | (with_reducible refine Fr.via ?_ (by assumption)) | (with_reducible refine Fr.comp ?_ (by assumption)))))) hG).mono ?_
  rintro e w1 ⟨rfl, f1⟩
  have gT := f1.blk (b := w.heap.size + 1) (c := #[.int .i64 0, .bool false, .int .i64 0]) (t := 47) (by (unfold Blk; simp (disch := first | omega | (simp; done) | (simp; omega)) only [hp_drew, hp_drewN, hp_alloc, hp_other, hp_same, hp_new, upd_cells, Option.map_some])) (fun q => q)
  have fw : Fr Nil w w1 := by (repeat (first | (with_reducible exact Fr.refl _ _) | (with_reducible assumption) | (with_reducible exact Fr.of_nil (by assumption)) | (with_reducible refine Fr.drew ?_) | (with_reducible refine Fr.drewN ?_ _) | (with_reducible refine Fr.alloc ?_ _) | (with_reducible refine Fr.set ?_ _ _ (by first | (intros; omega) | (simp; done) | (simp; omega))) | (with_reducible refine Fr.via ?_ (by assumption)) | (with_reducible refine Fr.comp ?_ (by assumption))))
  have hR := H.out.fr fw
  have t0 := gT.cell 0
  have t1 := gT.cell 1
  have t2 := gT.cell 2
  have t3 := gT.free 0
  have t4 := gT.free 1
  have t5 := gT.free 2
  have t6 := gT.lt
  simp at t0 t1 t2
  have HR := Lib.hid hR
  clear hR gT
  go_wp2
  refine bodyPost_ret (v := .agg #[.int .i64 0, .bool false, .int .i64 18]) (by simp [results, Try.results20, go_sem, t0, t1, t2]) rfl ⟨rfl, ?_, by (repeat (first | (with_reducible exact Fr.refl _ _) | (with_reducible assumption) | (with_reducible exact Fr.of_nil (by assumption)) | (with_reducible refine Fr.drew ?_) | (with_reducible refine Fr.drewN ?_ _) | (with_reducible refine Fr.alloc ?_ _) | (with_reducible refine Fr.set ?_ _ _ (by first | (intro _; exact rfl) | (intro _; exact .inl rfl) | (intro _; exact .inr rfl) | (intro q; exact absurd q (Nat.lt_irrefl _)) | (intro q; simp at q; omega))) | (with_reducible refine Fr.via ?_ (by assumption)) | (with_reducible refine Fr.comp ?_ (by assumption))))⟩
  exact H.out.fr (by (repeat (first | (with_reducible exact Fr.refl _ _) | (with_reducible assumption) | (with_reducible exact Fr.of_nil (by assumption)) | (with_reducible refine Fr.drew ?_) | (with_reducible refine Fr.drewN ?_ _) | (with_reducible refine Fr.alloc ?_ _) | (with_reducible refine Fr.set ?_ _ _ (by first | (intros; omega) | (simp; done) | (simp; omega))) | (with_reducible refine Fr.via ?_ (by assumption)) | (with_reducible refine Fr.comp ?_ (by assumption)))))
set_option maxRecDepth 100000 in
theorem ddo_done {X : Nat → Prop} (sb m : Nat) (W F G B : List Nat) (n : Int) (w : World) (h : RefR w X sb m ⟨W, F, G, B⟩) (c : Nat) (G0 : List Nat) (hG : G = G0 ++ [c]) (hlG : G.length ≤ 100000) (hlB : B.length ≤ 100000) (hX : ∀ b, X b → b < w.heap.size) :
    Calls Try.prog 20 #[.pointer (some ⟨sb, 0, none⟩), .agg #[.int .i64 4, .int .i64 n]] w fun e w' => e = .returned (.agg #[.int .i64 0, .bool false, .int .i64 0]) ∧ RefR w' X sb m ⟨W, F, G0, c :: B⟩ ∧ Fr (fun x => x = sb) w w' := by
  have lt := h.lt
  have H := Lib.hid h
  have ne1 : sb ≠ w.heap.size + 1 := by omega
  have ne2 : w.heap.size + 1 ≠ sb := by omega
  have HX := Lib.hid hX
  have HE : Hid (RefR w (fun b => X b ∨ b = w.heap.size + 1) sb m ⟨W, F, G, B⟩) := h.ext (.inl h.at_) (fun b q => q.elim .inl (fun e => .inr (by omega)))
  have HY : ∀ V, Fr Nil w V → w.heap.size + 1 < V.heap.size → ∀ b, (X b ∨ b = w.heap.size + 1) → b < V.heap.size := fun V f hv b q => by
    rcases q with q | q
    · exact Nat.lt_of_lt_of_le (HX.out b q) f.size
    · omega
  clear h hX
  go_enter Try.func20, Try.ntmps20
  go_wp2_with fail
  refine (ddone_some sb m c W F G B G0 n _ (HE.out.fr (by (repeat (first | (with_reducible exact Fr.refl _ _) | (with_reducible assumption) | (with_reducible exact Fr.of_nil (by assumption)) | (with_reducible refine Fr.drew ?_) | (with_reducible refine Fr.drewN ?_ _) | (with_reducible refine Fr.alloc ?_ _) | (with_reducible refine Fr.set ?_ _ _ (by first | (intros; omega) | (simp; done) | (simp; omega))) | (with_reducible refine Fr.via ?_ (by assumption)) | (with_reducible refine Fr.comp ?_ (by assumption)))))) hG hlG hlB (HY _ (by (repeat (first | (with_reducible exact Fr.refl _ _) | (with_reducible assumption) | (with_reducible exact Fr.of_nil (by assumption)) | (with_reducible refine Fr.drew ?_) | (with_reducible refine Fr.drewN ?_ _) | (with_reducible refine Fr.alloc ?_ _) | (with_reducible refine Fr.set ?_ _ _ (by first | (intros; omega) | (simp; done) | (simp; omega))) | (with_reducible refine Fr.via ?_ (by assumption)) | (with_reducible refine Fr.comp ?_ (by assumption))))) (by simp))).mono ?_
  rintro e w1 ⟨rfl, hR, f1⟩
  have gT := f1.blk (b := w.heap.size + 1) (c := #[.int .i64 0, .bool false, .int .i64 0]) (t := 47) (by (unfold Blk; simp (disch := first | omega | (simp; done) | (simp; omega)) only [hp_drew, hp_drewN, hp_alloc, hp_other, hp_same, hp_new, upd_cells, Option.map_some])) (fun q => ne2 q)
  have fw : Fr (fun x => x = sb) w w1 := by (repeat (first | (with_reducible exact Fr.refl _ _) | (with_reducible assumption) | (with_reducible exact Fr.of_nil (by assumption)) | (with_reducible refine Fr.drew ?_) | (with_reducible refine Fr.drewN ?_ _) | (with_reducible refine Fr.alloc ?_ _) | (with_reducible refine Fr.set ?_ _ _ (by first | (intro _; exact rfl) | (intro _; exact .inl rfl) | (intro _; exact .inr rfl) | (intro q; exact absurd q (Nat.lt_irrefl _)) | (intro q; simp at q; omega))) | (with_reducible refine Fr.via ?_ (by assumption)) | (with_reducible refine Fr.comp ?_ (by assumption))))
  have t0 := gT.cell 0
  have t1 := gT.cell 1
  have t2 := gT.cell 2
  have t3 := gT.free 0
  have t4 := gT.free 1
  have t5 := gT.free 2
  have t6 := gT.lt
  simp at t0 t1 t2
  have HR := Lib.hid hR
  clear hR gT
  go_wp2
  refine bodyPost_ret (v := .agg #[.int .i64 0, .bool false, .int .i64 0]) (by simp [results, Try.results20, go_sem, t0, t1, t2]) rfl ⟨rfl, ?_, by (repeat (first | (with_reducible exact Fr.refl _ _) | (with_reducible assumption) | (with_reducible exact Fr.of_nil (by assumption)) | (with_reducible refine Fr.drew ?_) | (with_reducible refine Fr.drewN ?_ _) | (with_reducible refine Fr.alloc ?_ _) | (with_reducible refine Fr.set ?_ _ _ (by first | (intro _; exact rfl) | (intro _; exact .inl rfl) | (intro _; exact .inr rfl) | (intro q; exact absurd q (Nat.lt_irrefl _)) | (intro q; simp at q; omega))) | (with_reducible refine Fr.via ?_ (by assumption)) | (with_reducible refine Fr.comp ?_ (by assumption))))⟩
  refine RefR.ext (HR.out.frS (T := fun x => x = w.heap.size + 1) (by (repeat (first | (with_reducible exact Fr.refl _ _) | (with_reducible assumption) | (with_reducible exact Fr.of_nil (by assumption)) | (with_reducible refine Fr.drew ?_) | (with_reducible refine Fr.drewN ?_ _) | (with_reducible refine Fr.alloc ?_ _) | (with_reducible refine Fr.set ?_ _ _ (by first | (intro _; exact rfl) | (intro _; exact .inl rfl) | (intro _; exact .inr rfl) | (intro q; exact absurd q (Nat.lt_irrefl _)) | (intro q; simp at q; omega))) | (with_reducible refine Fr.via ?_ (by assumption)) | (with_reducible refine Fr.comp ?_ (by assumption))))) (fun g q => .inr q) ne1) H.out.at_ (fun b q => .inl (.inl q))
end Go.Proofs.Ytlpdlhmdhlcdlaa
