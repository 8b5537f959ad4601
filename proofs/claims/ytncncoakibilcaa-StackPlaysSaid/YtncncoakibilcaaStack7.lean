/-
  The law's 'do': a call, and what is told of it.
-/
import Derived.Test.YtncncoakibilcaaL15
namespace Go.Proofs.Ytncncoakibilcaa
set_option linter.unusedSimpArgs false
set_option linter.unusedVariables false
open Go.RowKit

/-- What one is told. -/
structure TV where
  f : FrameV
  fresh : Bool
  ok : Bool
  err : Int
def noF : FrameV := ⟨0, 0, []⟩
def toldV (t : TV) (v : Value) : Value := .agg #[.int .i64 t.f.kind, .int .i64 t.f.node, v, .bool t.fresh, .bool t.ok, .int .i64 t.err]

section
variable (X : Nat → Prop) (bs : Nat) (l : List FrameV) (room todo : Nat) (w : World) (x : FrameV) (u : Value)
theorem do_pop_none (h : StackAt X w bs [] room todo) : Calls Try.prog 18 #[.pointer (some ⟨bs, 0, none⟩), .agg #[.int .i64 1, .int .i64 x.kind, .int .i64 x.node, u]] w fun e w' => e = .returned (toldV ⟨noF, false, false, 0⟩ (.slice none 0 0)) ∧ Fr Nil w w' := by
  go_enter Try.func18, Try.ntmps18
  go_wp2_with fail
  refine (pop_none X bs room todo _ (h.fr (S := Nil) (by (repeat (first | (with_reducible exact Fr.refl _ _) | (with_reducible assumption) | (with_reducible exact Fr.of_nil (by assumption)) | (with_reducible refine Fr.drew ?_) | (with_reducible refine Fr.drewN ?_ _) | (with_reducible refine Fr.alloc ?_ _) | (with_reducible refine Fr.set ?_ _ _ (by first | (intros; omega) | (simp; done) | (simp; omega))) | (with_reducible refine Fr.via ?_ (by assumption)) | (with_reducible refine Fr.comp ?_ (by assumption))))) (fun _ _ q => q.elim) (by simp [Nil]))).mono ?_
  rintro e w1 ⟨rfl, f1⟩
  have g4 := f1.blk (b := w.heap.size + 1) (c := #[.int .i64 0, .int .i64 0, .slice none 0 0, .bool false, .bool false, .int .i64 0]) (t := 44) (by (unfold Blk; simp (disch := first | omega | (simp; done) | (simp; omega)) only [hp_drew, hp_drewN, hp_alloc, hp_other, hp_same, hp_new, upd_cells, Option.map_some])) (fun q => by first | exact (show False from q) | (have q' : w.heap.size + 1 = bs := q; have := h.lt; omega))
  have g5 := f1.blk (b := w.heap.size + 2) (c := #[.int .i64 0, .int .i64 0, .slice none 0 0, .bool false, .bool false, .int .i64 0]) (t := 44) (by (unfold Blk; simp (disch := first | omega | (simp; done) | (simp; omega)) only [hp_drew, hp_drewN, hp_alloc, hp_other, hp_same, hp_new, upd_cells, Option.map_some])) (fun q => by first | exact (show False from q) | (have q' : w.heap.size + 2 = bs := q; have := h.lt; omega))
  have hfr : Fr Nil w w1 := Fr.trans (by (repeat (first | (with_reducible exact Fr.refl _ _) | (with_reducible assumption) | (with_reducible exact Fr.of_nil (by assumption)) | (with_reducible refine Fr.drew ?_) | (with_reducible refine Fr.drewN ?_ _) | (with_reducible refine Fr.alloc ?_ _) | (with_reducible refine Fr.set ?_ _ _ (by first | (intros; omega) | (simp; done) | (simp; omega))) | (with_reducible refine Fr.via ?_ (by assumption)) | (with_reducible refine Fr.comp ?_ (by assumption))))) f1 (fun _ _ q => q)
  have p0 := g4.cell 0
  have p1 := g4.cell 1
  have p2 := g4.cell 2
  have p3 := g4.cell 3
  have p4 := g4.cell 4
  have p5 := g4.cell 5
  have q0 := g5.cell 0
  have q1 := g5.cell 1
  have q2 := g5.cell 2
  have q3 := g5.cell 3
  have q4 := g5.cell 4
  have q5 := g5.cell 5
  have y0 := g4.free 0
  have y1 := g4.free 1
  have y2 := g4.free 2
  have y3 := g4.free 3
  have y4 := g4.free 4
  have y5 := g4.free 5
  have z0 := g5.free 0
  have z1 := g5.free 1
  have z2 := g5.free 2
  have z3 := g5.free 3
  have z4 := g5.free 4
  have z5 := g5.free 5
  simp at p0 p1 p2 p3 p4 p5 q0 q1 q2 q3 q4 q5
  have hs4 := g4.lt
  have hs5 := g5.lt
  clear g4 g5 f1
  go_wp2
  refine bodyPost_ret (v := (toldV ⟨noF, false, false, 0⟩ (.slice none 0 0))) (by simp [toldV, noF, results, Try.results18, go_sem, p0, p1, p2, p3, p4, p5, q0, q1, q2, q3, q4, q5, hs4, hs5]) rfl ⟨rfl, ?_⟩
  (repeat (first | (with_reducible exact Fr.refl _ _) | (with_reducible assumption) | (with_reducible exact Fr.of_nil (by assumption)) | (with_reducible refine Fr.drew ?_) | (with_reducible refine Fr.drewN ?_ _) | (with_reducible refine Fr.alloc ?_ _) | (with_reducible refine Fr.set ?_ _ _ (by first | (intros; omega) | (simp; done) | (simp; omega))) | (with_reducible refine Fr.via ?_ (by assumption)) | (with_reducible refine Fr.comp ?_ (by assumption))))
theorem do_top_none (h : StackAt X w bs [] room todo) : Calls Try.prog 18 #[.pointer (some ⟨bs, 0, none⟩), .agg #[.int .i64 2, .int .i64 x.kind, .int .i64 x.node, u]] w fun e w' => e = .returned (toldV ⟨noF, false, false, 0⟩ (.slice none 0 0)) ∧ Fr Nil w w' := by
  go_enter Try.func18, Try.ntmps18
  go_wp2_with fail
  refine (top_none X bs room todo _ (h.fr (S := Nil) (by (repeat (first | (with_reducible exact Fr.refl _ _) | (with_reducible assumption) | (with_reducible exact Fr.of_nil (by assumption)) | (with_reducible refine Fr.drew ?_) | (with_reducible refine Fr.drewN ?_ _) | (with_reducible refine Fr.alloc ?_ _) | (with_reducible refine Fr.set ?_ _ _ (by first | (intros; omega) | (simp; done) | (simp; omega))) | (with_reducible refine Fr.via ?_ (by assumption)) | (with_reducible refine Fr.comp ?_ (by assumption))))) (fun _ _ q => q.elim) (by simp [Nil]))).mono ?_
  rintro e w1 ⟨rfl, f1⟩
  have g4 := f1.blk (b := w.heap.size + 1) (c := #[.int .i64 0, .int .i64 0, .slice none 0 0, .bool false, .bool false, .int .i64 0]) (t := 44) (by (unfold Blk; simp (disch := first | omega | (simp; done) | (simp; omega)) only [hp_drew, hp_drewN, hp_alloc, hp_other, hp_same, hp_new, upd_cells, Option.map_some])) (fun q => by first | exact (show False from q) | (have q' : w.heap.size + 1 = bs := q; have := h.lt; omega))
  have g5 := f1.blk (b := w.heap.size + 2) (c := #[.int .i64 0, .int .i64 0, .slice none 0 0, .bool false, .bool false, .int .i64 0]) (t := 44) (by (unfold Blk; simp (disch := first | omega | (simp; done) | (simp; omega)) only [hp_drew, hp_drewN, hp_alloc, hp_other, hp_same, hp_new, upd_cells, Option.map_some])) (fun q => by first | exact (show False from q) | (have q' : w.heap.size + 2 = bs := q; have := h.lt; omega))
  have hfr : Fr Nil w w1 := Fr.trans (by (repeat (first | (with_reducible exact Fr.refl _ _) | (with_reducible assumption) | (with_reducible exact Fr.of_nil (by assumption)) | (with_reducible refine Fr.drew ?_) | (with_reducible refine Fr.drewN ?_ _) | (with_reducible refine Fr.alloc ?_ _) | (with_reducible refine Fr.set ?_ _ _ (by first | (intros; omega) | (simp; done) | (simp; omega))) | (with_reducible refine Fr.via ?_ (by assumption)) | (with_reducible refine Fr.comp ?_ (by assumption))))) f1 (fun _ _ q => q)
  have p0 := g4.cell 0
  have p1 := g4.cell 1
  have p2 := g4.cell 2
  have p3 := g4.cell 3
  have p4 := g4.cell 4
  have p5 := g4.cell 5
  have q0 := g5.cell 0
  have q1 := g5.cell 1
  have q2 := g5.cell 2
  have q3 := g5.cell 3
  have q4 := g5.cell 4
  have q5 := g5.cell 5
  have y0 := g4.free 0
  have y1 := g4.free 1
  have y2 := g4.free 2
  have y3 := g4.free 3
  have y4 := g4.free 4
  have y5 := g4.free 5
  have z0 := g5.free 0
  have z1 := g5.free 1
  have z2 := g5.free 2
  have z3 := g5.free 3
  have z4 := g5.free 4
  have z5 := g5.free 5
  simp at p0 p1 p2 p3 p4 p5 q0 q1 q2 q3 q4 q5
  have hs4 := g4.lt
  have hs5 := g5.lt
  clear g4 g5 f1
  go_wp2
  refine bodyPost_ret (v := (toldV ⟨noF, false, false, 0⟩ (.slice none 0 0))) (by simp [toldV, noF, results, Try.results18, go_sem, p0, p1, p2, p3, p4, p5, q0, q1, q2, q3, q4, q5, hs4, hs5]) rfl ⟨rfl, ?_⟩
  (repeat (first | (with_reducible exact Fr.refl _ _) | (with_reducible assumption) | (with_reducible exact Fr.of_nil (by assumption)) | (with_reducible refine Fr.drew ?_) | (with_reducible refine Fr.drewN ?_ _) | (with_reducible refine Fr.alloc ?_ _) | (with_reducible refine Fr.set ?_ _ _ (by first | (intros; omega) | (simp; done) | (simp; omega))) | (with_reducible refine Fr.via ?_ (by assumption)) | (with_reducible refine Fr.comp ?_ (by assumption))))
theorem do_top_some (k : Nat) (f : FrameV) (hk : l[k]? = some f) (hkl : l.length = k + 1) (hX : ∀ b, X b → b < w.heap.size) (h : StackAt X w bs l room todo) : Calls Try.prog 18 #[.pointer (some ⟨bs, 0, none⟩), .agg #[.int .i64 2, .int .i64 x.kind, .int .i64 x.node, u]] w fun e w' => ∃ b', e = .returned (toldV ⟨f, false, true, 0⟩ (.slice (some ⟨b', 0, none⟩) f.words.length f.words.length)) ∧ Blk w' b' (ints f.words) 2 ∧ w.heap.size ≤ b' ∧ Fr Nil w w' := by
  go_enter Try.func18, Try.ntmps18
  go_wp2_with fail
  refine (top_some X bs l room todo _ k f hk hkl (fun b q => by have := hX b q; simp; omega) (h.fr (S := Nil) (by (repeat (first | (with_reducible exact Fr.refl _ _) | (with_reducible assumption) | (with_reducible exact Fr.of_nil (by assumption)) | (with_reducible refine Fr.drew ?_) | (with_reducible refine Fr.drewN ?_ _) | (with_reducible refine Fr.alloc ?_ _) | (with_reducible refine Fr.set ?_ _ _ (by first | (intros; omega) | (simp; done) | (simp; omega))) | (with_reducible refine Fr.via ?_ (by assumption)) | (with_reducible refine Fr.comp ?_ (by assumption))))) (fun _ _ q => q.elim) (by simp [Nil]))).mono ?_
  rintro e w1 ⟨b', rfl, hb', hsz, f1⟩
  have g4 := f1.blk (b := w.heap.size + 1) (c := #[.int .i64 0, .int .i64 0, .slice none 0 0, .bool false, .bool false, .int .i64 0]) (t := 44) (by (unfold Blk; simp (disch := first | omega | (simp; done) | (simp; omega)) only [hp_drew, hp_drewN, hp_alloc, hp_other, hp_same, hp_new, upd_cells, Option.map_some])) (fun q => by first | exact (show False from q) | (have q' : w.heap.size + 1 = bs := q; have := h.lt; omega))
  have g5 := f1.blk (b := w.heap.size + 2) (c := #[.int .i64 0, .int .i64 0, .slice none 0 0, .bool false, .bool false, .int .i64 0]) (t := 44) (by (unfold Blk; simp (disch := first | omega | (simp; done) | (simp; omega)) only [hp_drew, hp_drewN, hp_alloc, hp_other, hp_same, hp_new, upd_cells, Option.map_some])) (fun q => by first | exact (show False from q) | (have q' : w.heap.size + 2 = bs := q; have := h.lt; omega))
  simp at hsz
  have hb'l := hb'.lt
  have hfr : Fr Nil w w1 := Fr.trans (by (repeat (first | (with_reducible exact Fr.refl _ _) | (with_reducible assumption) | (with_reducible exact Fr.of_nil (by assumption)) | (with_reducible refine Fr.drew ?_) | (with_reducible refine Fr.drewN ?_ _) | (with_reducible refine Fr.alloc ?_ _) | (with_reducible refine Fr.set ?_ _ _ (by first | (intros; omega) | (simp; done) | (simp; omega))) | (with_reducible refine Fr.via ?_ (by assumption)) | (with_reducible refine Fr.comp ?_ (by assumption))))) f1 (fun _ _ q => q)
  have p0 := g4.cell 0
  have p1 := g4.cell 1
  have p2 := g4.cell 2
  have p3 := g4.cell 3
  have p4 := g4.cell 4
  have p5 := g4.cell 5
  have q0 := g5.cell 0
  have q1 := g5.cell 1
  have q2 := g5.cell 2
  have q3 := g5.cell 3
  have q4 := g5.cell 4
  have q5 := g5.cell 5
  have y0 := g4.free 0
  have y1 := g4.free 1
  have y2 := g4.free 2
  have y3 := g4.free 3
  have y4 := g4.free 4
  have y5 := g4.free 5
  have z0 := g5.free 0
  have z1 := g5.free 1
  have z2 := g5.free 2
  have z3 := g5.free 3
  have z4 := g5.free 4
  have z5 := g5.free 5
  simp at p0 p1 p2 p3 p4 p5 q0 q1 q2 q3 q4 q5
  have hs4 := g4.lt
  have hs5 := g5.lt
  clear g4 g5 f1
  go_wp2
  refine bodyPost_ret (v := (toldV ⟨f, false, true, 0⟩ (.slice (some ⟨b', 0, none⟩) f.words.length f.words.length))) (by simp [toldV, noF, results, Try.results18, go_sem, p0, p1, p2, p3, p4, p5, q0, q1, q2, q3, q4, q5, hs4, hs5]) rfl ⟨b', rfl, ?_, by omega, ?_⟩
  · (unfold Blk; simp (disch := first | omega | (simp; done) | (simp; omega)) only [hp_drew, hp_drewN, hp_alloc, hp_other, hp_same, hp_new, upd_cells, Option.map_some, (hb').eq])
  · (repeat (first | (with_reducible exact Fr.refl _ _) | (with_reducible assumption) | (with_reducible exact Fr.of_nil (by assumption)) | (with_reducible refine Fr.drew ?_) | (with_reducible refine Fr.drewN ?_ _) | (with_reducible refine Fr.alloc ?_ _) | (with_reducible refine Fr.set ?_ _ _ (by first | (intros; omega) | (simp; done) | (simp; omega))) | (with_reducible refine Fr.via ?_ (by assumption)) | (with_reducible refine Fr.comp ?_ (by assumption))))
theorem do_pop_some (k : Nat) (f : FrameV) (hk : l[k]? = some f) (hkl : l.length = k + 1) (hX : ∀ b, X b → b < w.heap.size) (h : StackAt X w bs l room todo) : Calls Try.prog 18 #[.pointer (some ⟨bs, 0, none⟩), .agg #[.int .i64 1, .int .i64 x.kind, .int .i64 x.node, u]] w fun e w' => ∃ b', e = .returned (toldV ⟨f, (decide (k < todo)), true, 0⟩ (.slice (some ⟨b', 0, none⟩) f.words.length f.words.length)) ∧ Blk w' b' (ints f.words) 2 ∧ w.heap.size ≤ b' ∧ StackAt X w' bs (l.take k) room (min todo k) ∧ Fr (fun b => b = bs) w w' := by
  have hbs := h.lt
  have hxx := h.hx
  have h' := h.mono (Y := fun b => X b ∨ (w.heap.size ≤ b ∧ b < w.heap.size + 3)) (fun b hb q => q.elim id (fun q => by omega)) (.inl h.hx)
  have hX' : ∀ b, (X b ∨ (w.heap.size ≤ b ∧ b < w.heap.size + 3)) → b < w.heap.size + 3 := fun b q => q.elim (fun q => by have := hX b q; omega) (fun q => q.2)
  go_enter Try.func18, Try.ntmps18
  go_wp2_with fail
  refine (pop_some (fun b => X b ∨ (w.heap.size ≤ b ∧ b < w.heap.size + 3)) bs l room todo _ k f hk hkl (fun b q => by have := hX' b q; simp; omega) (h'.fr (S := Nil) (by (repeat (first | (with_reducible exact Fr.refl _ _) | (with_reducible assumption) | (with_reducible exact Fr.of_nil (by assumption)) | (with_reducible refine Fr.drew ?_) | (with_reducible refine Fr.drewN ?_ _) | (with_reducible refine Fr.alloc ?_ _) | (with_reducible refine Fr.set ?_ _ _ (by first | (intros; omega) | (simp; done) | (simp; omega))) | (with_reducible refine Fr.via ?_ (by assumption)) | (with_reducible refine Fr.comp ?_ (by assumption))))) (fun _ _ q => q.elim) (by simp [Nil]))).mono ?_
  rintro e w1 ⟨b', rfl, hb', hsz, st, f1⟩
  have g4 := f1.blk (b := w.heap.size + 1) (c := #[.int .i64 0, .int .i64 0, .slice none 0 0, .bool false, .bool false, .int .i64 0]) (t := 44) (by (unfold Blk; simp (disch := first | omega | (simp; done) | (simp; omega)) only [hp_drew, hp_drewN, hp_alloc, hp_other, hp_same, hp_new, upd_cells, Option.map_some])) (fun q => by first | exact (show False from q) | (have q' : w.heap.size + 1 = bs := q; have := h.lt; omega))
  have g5 := f1.blk (b := w.heap.size + 2) (c := #[.int .i64 0, .int .i64 0, .slice none 0 0, .bool false, .bool false, .int .i64 0]) (t := 44) (by (unfold Blk; simp (disch := first | omega | (simp; done) | (simp; omega)) only [hp_drew, hp_drewN, hp_alloc, hp_other, hp_same, hp_new, upd_cells, Option.map_some])) (fun q => by first | exact (show False from q) | (have q' : w.heap.size + 2 = bs := q; have := h.lt; omega))
  simp at hsz
  have hb'l := hb'.lt
  have hST := Lib.hid st
  clear st h h'
  have hfr : Fr (fun b => b = bs) w w1 := Fr.trans (by (repeat (first | (with_reducible exact Fr.refl _ _) | (with_reducible assumption) | (with_reducible exact Fr.of_nil (by assumption)) | (with_reducible refine Fr.drew ?_) | (with_reducible refine Fr.drewN ?_ _) | (with_reducible refine Fr.alloc ?_ _) | (with_reducible refine Fr.set ?_ _ _ (by first | (intros; omega) | (simp; done) | (simp; omega))) | (with_reducible refine Fr.via ?_ (by assumption)) | (with_reducible refine Fr.comp ?_ (by assumption))))) f1 (fun _ _ q => q)
  have p0 := g4.cell 0
  have p1 := g4.cell 1
  have p2 := g4.cell 2
  have p3 := g4.cell 3
  have p4 := g4.cell 4
  have p5 := g4.cell 5
  have q0 := g5.cell 0
  have q1 := g5.cell 1
  have q2 := g5.cell 2
  have q3 := g5.cell 3
  have q4 := g5.cell 4
  have q5 := g5.cell 5
  have y0 := g4.free 0
  have y1 := g4.free 1
  have y2 := g4.free 2
  have y3 := g4.free 3
  have y4 := g4.free 4
  have y5 := g4.free 5
  have z0 := g5.free 0
  have z1 := g5.free 1
  have z2 := g5.free 2
  have z3 := g5.free 3
  have z4 := g5.free 4
  have z5 := g5.free 5
  simp at p0 p1 p2 p3 p4 p5 q0 q1 q2 q3 q4 q5
  have hs4 := g4.lt
  have hs5 := g5.lt
  clear g4 g5 f1
  go_wp2
  refine bodyPost_ret (v := (toldV ⟨f, (decide (k < todo)), true, 0⟩ (.slice (some ⟨b', 0, none⟩) f.words.length f.words.length))) (by simp [toldV, noF, results, Try.results18, go_sem, p0, p1, p2, p3, p4, p5, q0, q1, q2, q3, q4, q5, hs4, hs5]) rfl ⟨b', rfl, ?_, by omega, ?_, ?_⟩
  · (unfold Blk; simp (disch := first | omega | (simp; done) | (simp; omega)) only [hp_drew, hp_drewN, hp_alloc, hp_other, hp_same, hp_new, upd_cells, Option.map_some, (hb').eq])
  · have st := hST.out
    exact (st.fr (S := fun b => w.heap.size ≤ b ∧ b < w.heap.size + 3) (by (repeat (first | (with_reducible exact Fr.refl _ _) | (with_reducible assumption) | (with_reducible exact Fr.of_nil (by assumption)) | (with_reducible refine Fr.drew ?_) | (with_reducible refine Fr.drewN ?_ _) | (with_reducible refine Fr.alloc ?_ _) | (with_reducible refine Fr.set ?_ _ _ (by first | (intros; omega) | (simp; done) | (simp; omega))) | (with_reducible refine Fr.via ?_ (by assumption)) | (with_reducible refine Fr.comp ?_ (by assumption))))) (fun b _ q => .inr q) (by simp; omega)).mono (fun b _ q => .inl q) hxx
  · (repeat (first | (with_reducible exact Fr.refl _ _) | (with_reducible assumption) | (with_reducible exact Fr.of_nil (by assumption)) | (with_reducible refine Fr.drew ?_) | (with_reducible refine Fr.drewN ?_ _) | (with_reducible refine Fr.alloc ?_ _) | (with_reducible refine Fr.set ?_ _ _ (by first | (intros; omega) | (simp; done) | (simp; omega))) | (with_reducible refine Fr.via ?_ (by assumption)) | (with_reducible refine Fr.comp ?_ (by assumption))))
theorem do_push_in (hu : IntsAt X w u x.words) (hxl : x.words.length ≤ 5000) (hin : usedOf l + (x.words.length + 2) ≤ room) (hX : ∀ b, X b → b < w.heap.size) (h : StackAt X w bs l room todo) : Calls Try.prog 18 #[.pointer (some ⟨bs, 0, none⟩), .agg #[.int .i64 0, .int .i64 x.kind, .int .i64 x.node, u]] w fun e w' => e = .returned (toldV ⟨noF, false, false, 0⟩ (.slice none 0 0)) ∧ StackAt X w' bs (l ++ [x]) room todo ∧ Fr (fun b => b = bs) w w' := by
  have hbs := h.lt
  have hxx := h.hx
  have h' := h.mono (Y := fun b => X b ∨ (w.heap.size ≤ b ∧ b < w.heap.size + 3)) (fun b hb q => q.elim id (fun q => by omega)) (.inl h.hx)
  have hX' : ∀ b, (X b ∨ (w.heap.size ≤ b ∧ b < w.heap.size + 3)) → b < w.heap.size + 3 := fun b q => q.elim (fun q => by have := hX b q; omega) (fun q => q.2)
  go_enter Try.func18, Try.ntmps18
  go_wp2_with fail
  refine (push_in (fun b => X b ∨ (w.heap.size ≤ b ∧ b < w.heap.size + 3)) bs l room todo _ x u ((hu.mono (fun b hb q => q.elim id (fun q => by omega))).fr (S := Nil) (by (repeat (first | (with_reducible exact Fr.refl _ _) | (with_reducible assumption) | (with_reducible exact Fr.of_nil (by assumption)) | (with_reducible refine Fr.drew ?_) | (with_reducible refine Fr.drewN ?_ _) | (with_reducible refine Fr.alloc ?_ _) | (with_reducible refine Fr.set ?_ _ _ (by first | (intros; omega) | (simp; done) | (simp; omega))) | (with_reducible refine Fr.via ?_ (by assumption)) | (with_reducible refine Fr.comp ?_ (by assumption))))) (fun _ _ q => q.elim)) hxl hin (fun b q => by have := hX' b q; simp; omega) (h'.fr (S := Nil) (by (repeat (first | (with_reducible exact Fr.refl _ _) | (with_reducible assumption) | (with_reducible exact Fr.of_nil (by assumption)) | (with_reducible refine Fr.drew ?_) | (with_reducible refine Fr.drewN ?_ _) | (with_reducible refine Fr.alloc ?_ _) | (with_reducible refine Fr.set ?_ _ _ (by first | (intros; omega) | (simp; done) | (simp; omega))) | (with_reducible refine Fr.via ?_ (by assumption)) | (with_reducible refine Fr.comp ?_ (by assumption))))) (fun _ _ q => q.elim) (by simp [Nil]))).mono ?_
  rintro e w1 ⟨rfl, st, f1⟩
  have g4 := f1.blk (b := w.heap.size + 1) (c := #[.int .i64 0, .int .i64 0, .slice none 0 0, .bool false, .bool false, .int .i64 0]) (t := 44) (by (unfold Blk; simp (disch := first | omega | (simp; done) | (simp; omega)) only [hp_drew, hp_drewN, hp_alloc, hp_other, hp_same, hp_new, upd_cells, Option.map_some])) (fun q => by first | exact (show False from q) | (have q' : w.heap.size + 1 = bs := q; have := h.lt; omega))
  have g5 := f1.blk (b := w.heap.size + 2) (c := #[.int .i64 0, .int .i64 0, .slice none 0 0, .bool false, .bool false, .int .i64 0]) (t := 44) (by (unfold Blk; simp (disch := first | omega | (simp; done) | (simp; omega)) only [hp_drew, hp_drewN, hp_alloc, hp_other, hp_same, hp_new, upd_cells, Option.map_some])) (fun q => by first | exact (show False from q) | (have q' : w.heap.size + 2 = bs := q; have := h.lt; omega))
  have hST := Lib.hid st
  clear st h h'
  have hfr : Fr (fun b => b = bs) w w1 := Fr.trans (by (repeat (first | (with_reducible exact Fr.refl _ _) | (with_reducible assumption) | (with_reducible exact Fr.of_nil (by assumption)) | (with_reducible refine Fr.drew ?_) | (with_reducible refine Fr.drewN ?_ _) | (with_reducible refine Fr.alloc ?_ _) | (with_reducible refine Fr.set ?_ _ _ (by first | (intros; omega) | (simp; done) | (simp; omega))) | (with_reducible refine Fr.via ?_ (by assumption)) | (with_reducible refine Fr.comp ?_ (by assumption))))) f1 (fun _ _ q => q)
  have p0 := g4.cell 0
  have p1 := g4.cell 1
  have p2 := g4.cell 2
  have p3 := g4.cell 3
  have p4 := g4.cell 4
  have p5 := g4.cell 5
  have q0 := g5.cell 0
  have q1 := g5.cell 1
  have q2 := g5.cell 2
  have q3 := g5.cell 3
  have q4 := g5.cell 4
  have q5 := g5.cell 5
  have y0 := g4.free 0
  have y1 := g4.free 1
  have y2 := g4.free 2
  have y3 := g4.free 3
  have y4 := g4.free 4
  have y5 := g4.free 5
  have z0 := g5.free 0
  have z1 := g5.free 1
  have z2 := g5.free 2
  have z3 := g5.free 3
  have z4 := g5.free 4
  have z5 := g5.free 5
  simp at p0 p1 p2 p3 p4 p5 q0 q1 q2 q3 q4 q5
  have hs4 := g4.lt
  have hs5 := g5.lt
  clear g4 g5 f1
  go_wp2
  refine bodyPost_ret (v := (toldV ⟨noF, false, false, 0⟩ (.slice none 0 0))) (by simp [toldV, noF, results, Try.results18, go_sem, p0, p1, p2, p3, p4, p5, q0, q1, q2, q3, q4, q5, hs4, hs5]) rfl ⟨rfl, ?_, ?_⟩
  · have st := hST.out
    exact (st.fr (S := fun b => w.heap.size ≤ b ∧ b < w.heap.size + 3) (by (repeat (first | (with_reducible exact Fr.refl _ _) | (with_reducible assumption) | (with_reducible exact Fr.of_nil (by assumption)) | (with_reducible refine Fr.drew ?_) | (with_reducible refine Fr.drewN ?_ _) | (with_reducible refine Fr.alloc ?_ _) | (with_reducible refine Fr.set ?_ _ _ (by first | (intros; omega) | (simp; done) | (simp; omega))) | (with_reducible refine Fr.via ?_ (by assumption)) | (with_reducible refine Fr.comp ?_ (by assumption))))) (fun b _ q => .inr q) (by simp; omega)).mono (fun b _ q => .inl q) hxx
  · (repeat (first | (with_reducible exact Fr.refl _ _) | (with_reducible assumption) | (with_reducible exact Fr.of_nil (by assumption)) | (with_reducible refine Fr.drew ?_) | (with_reducible refine Fr.drewN ?_ _) | (with_reducible refine Fr.alloc ?_ _) | (with_reducible refine Fr.set ?_ _ _ (by first | (intros; omega) | (simp; done) | (simp; omega))) | (with_reducible refine Fr.via ?_ (by assumption)) | (with_reducible refine Fr.comp ?_ (by assumption))))
theorem do_push_out (hu : IntsAt X w u x.words) (hxl : x.words.length ≤ 5000) (hout : room < usedOf l + (x.words.length + 2)) (h : StackAt X w bs l room todo) : Calls Try.prog 18 #[.pointer (some ⟨bs, 0, none⟩), .agg #[.int .i64 0, .int .i64 x.kind, .int .i64 x.node, u]] w fun e w' => e = .returned (toldV ⟨noF, false, false, 13⟩ (.slice none 0 0)) ∧ Fr Nil w w' := by
  go_enter Try.func18, Try.ntmps18
  go_wp2_with fail
  refine (push_out X bs l room todo _ x u (hu.fr (S := Nil) (by (repeat (first | (with_reducible exact Fr.refl _ _) | (with_reducible assumption) | (with_reducible exact Fr.of_nil (by assumption)) | (with_reducible refine Fr.drew ?_) | (with_reducible refine Fr.drewN ?_ _) | (with_reducible refine Fr.alloc ?_ _) | (with_reducible refine Fr.set ?_ _ _ (by first | (intros; omega) | (simp; done) | (simp; omega))) | (with_reducible refine Fr.via ?_ (by assumption)) | (with_reducible refine Fr.comp ?_ (by assumption))))) (fun _ _ q => q.elim)) hxl hout (h.fr (S := Nil) (by (repeat (first | (with_reducible exact Fr.refl _ _) | (with_reducible assumption) | (with_reducible exact Fr.of_nil (by assumption)) | (with_reducible refine Fr.drew ?_) | (with_reducible refine Fr.drewN ?_ _) | (with_reducible refine Fr.alloc ?_ _) | (with_reducible refine Fr.set ?_ _ _ (by first | (intros; omega) | (simp; done) | (simp; omega))) | (with_reducible refine Fr.via ?_ (by assumption)) | (with_reducible refine Fr.comp ?_ (by assumption))))) (fun _ _ q => q.elim) (by simp [Nil]))).mono ?_
  rintro e w1 ⟨rfl, f1⟩
  have g4 := f1.blk (b := w.heap.size + 1) (c := #[.int .i64 0, .int .i64 0, .slice none 0 0, .bool false, .bool false, .int .i64 0]) (t := 44) (by (unfold Blk; simp (disch := first | omega | (simp; done) | (simp; omega)) only [hp_drew, hp_drewN, hp_alloc, hp_other, hp_same, hp_new, upd_cells, Option.map_some])) (fun q => by first | exact (show False from q) | (have q' : w.heap.size + 1 = bs := q; have := h.lt; omega))
  have g5 := f1.blk (b := w.heap.size + 2) (c := #[.int .i64 0, .int .i64 0, .slice none 0 0, .bool false, .bool false, .int .i64 0]) (t := 44) (by (unfold Blk; simp (disch := first | omega | (simp; done) | (simp; omega)) only [hp_drew, hp_drewN, hp_alloc, hp_other, hp_same, hp_new, upd_cells, Option.map_some])) (fun q => by first | exact (show False from q) | (have q' : w.heap.size + 2 = bs := q; have := h.lt; omega))
  have hfr : Fr Nil w w1 := Fr.trans (by (repeat (first | (with_reducible exact Fr.refl _ _) | (with_reducible assumption) | (with_reducible exact Fr.of_nil (by assumption)) | (with_reducible refine Fr.drew ?_) | (with_reducible refine Fr.drewN ?_ _) | (with_reducible refine Fr.alloc ?_ _) | (with_reducible refine Fr.set ?_ _ _ (by first | (intros; omega) | (simp; done) | (simp; omega))) | (with_reducible refine Fr.via ?_ (by assumption)) | (with_reducible refine Fr.comp ?_ (by assumption))))) f1 (fun _ _ q => q)
  have p0 := g4.cell 0
  have p1 := g4.cell 1
  have p2 := g4.cell 2
  have p3 := g4.cell 3
  have p4 := g4.cell 4
  have p5 := g4.cell 5
  have q0 := g5.cell 0
  have q1 := g5.cell 1
  have q2 := g5.cell 2
  have q3 := g5.cell 3
  have q4 := g5.cell 4
  have q5 := g5.cell 5
  have y0 := g4.free 0
  have y1 := g4.free 1
  have y2 := g4.free 2
  have y3 := g4.free 3
  have y4 := g4.free 4
  have y5 := g4.free 5
  have z0 := g5.free 0
  have z1 := g5.free 1
  have z2 := g5.free 2
  have z3 := g5.free 3
  have z4 := g5.free 4
  have z5 := g5.free 5
  simp at p0 p1 p2 p3 p4 p5 q0 q1 q2 q3 q4 q5
  have hs4 := g4.lt
  have hs5 := g5.lt
  clear g4 g5 f1
  go_wp2
  refine bodyPost_ret (v := (toldV ⟨noF, false, false, 13⟩ (.slice none 0 0))) (by simp [toldV, noF, results, Try.results18, go_sem, p0, p1, p2, p3, p4, p5, q0, q1, q2, q3, q4, q5, hs4, hs5]) rfl ⟨rfl, ?_⟩
  (repeat (first | (with_reducible exact Fr.refl _ _) | (with_reducible assumption) | (with_reducible exact Fr.of_nil (by assumption)) | (with_reducible refine Fr.drew ?_) | (with_reducible refine Fr.drewN ?_ _) | (with_reducible refine Fr.alloc ?_ _) | (with_reducible refine Fr.set ?_ _ _ (by first | (intros; omega) | (simp; done) | (simp; omega))) | (with_reducible refine Fr.via ?_ (by assumption)) | (with_reducible refine Fr.comp ?_ (by assumption))))
theorem do_begin (hX : ∀ b, X b → b < w.heap.size) (h : StackAt X w bs l room todo) : Calls Try.prog 18 #[.pointer (some ⟨bs, 0, none⟩), .agg #[.int .i64 3, .int .i64 x.kind, .int .i64 x.node, u]] w fun e w' => e = .returned (toldV ⟨noF, false, false, 0⟩ (.slice none 0 0)) ∧ StackAt X w' bs l room l.length ∧ Fr (fun b => b = bs) w w' := by
  have hbs := h.lt
  have hxx := h.hx
  have h' := h.mono (Y := fun b => X b ∨ (w.heap.size ≤ b ∧ b < w.heap.size + 3)) (fun b hb q => q.elim id (fun q => by omega)) (.inl h.hx)
  have hX' : ∀ b, (X b ∨ (w.heap.size ≤ b ∧ b < w.heap.size + 3)) → b < w.heap.size + 3 := fun b q => q.elim (fun q => by have := hX b q; omega) (fun q => q.2)
  go_enter Try.func18, Try.ntmps18
  go_wp2_with fail
  refine (sbegin_any (fun b => X b ∨ (w.heap.size ≤ b ∧ b < w.heap.size + 3)) bs l room todo _ (h'.fr (S := Nil) (by (repeat (first | (with_reducible exact Fr.refl _ _) | (with_reducible assumption) | (with_reducible exact Fr.of_nil (by assumption)) | (with_reducible refine Fr.drew ?_) | (with_reducible refine Fr.drewN ?_ _) | (with_reducible refine Fr.alloc ?_ _) | (with_reducible refine Fr.set ?_ _ _ (by first | (intros; omega) | (simp; done) | (simp; omega))) | (with_reducible refine Fr.via ?_ (by assumption)) | (with_reducible refine Fr.comp ?_ (by assumption))))) (fun _ _ q => q.elim) (by simp [Nil]))).mono ?_
  rintro e w1 ⟨rfl, st, f1⟩
  have g4 := f1.blk (b := w.heap.size + 1) (c := #[.int .i64 0, .int .i64 0, .slice none 0 0, .bool false, .bool false, .int .i64 0]) (t := 44) (by (unfold Blk; simp (disch := first | omega | (simp; done) | (simp; omega)) only [hp_drew, hp_drewN, hp_alloc, hp_other, hp_same, hp_new, upd_cells, Option.map_some])) (fun q => by first | exact (show False from q) | (have q' : w.heap.size + 1 = bs := q; have := h.lt; omega))
  have g5 := f1.blk (b := w.heap.size + 2) (c := #[.int .i64 0, .int .i64 0, .slice none 0 0, .bool false, .bool false, .int .i64 0]) (t := 44) (by (unfold Blk; simp (disch := first | omega | (simp; done) | (simp; omega)) only [hp_drew, hp_drewN, hp_alloc, hp_other, hp_same, hp_new, upd_cells, Option.map_some])) (fun q => by first | exact (show False from q) | (have q' : w.heap.size + 2 = bs := q; have := h.lt; omega))
  have hST := Lib.hid st
  clear st h h'
  have hfr : Fr (fun b => b = bs) w w1 := Fr.trans (by (repeat (first | (with_reducible exact Fr.refl _ _) | (with_reducible assumption) | (with_reducible exact Fr.of_nil (by assumption)) | (with_reducible refine Fr.drew ?_) | (with_reducible refine Fr.drewN ?_ _) | (with_reducible refine Fr.alloc ?_ _) | (with_reducible refine Fr.set ?_ _ _ (by first | (intros; omega) | (simp; done) | (simp; omega))) | (with_reducible refine Fr.via ?_ (by assumption)) | (with_reducible refine Fr.comp ?_ (by assumption))))) f1 (fun _ _ q => q)
  have p0 := g4.cell 0
  have p1 := g4.cell 1
  have p2 := g4.cell 2
  have p3 := g4.cell 3
  have p4 := g4.cell 4
  have p5 := g4.cell 5
  have q0 := g5.cell 0
  have q1 := g5.cell 1
  have q2 := g5.cell 2
  have q3 := g5.cell 3
  have q4 := g5.cell 4
  have q5 := g5.cell 5
  have y0 := g4.free 0
  have y1 := g4.free 1
  have y2 := g4.free 2
  have y3 := g4.free 3
  have y4 := g4.free 4
  have y5 := g4.free 5
  have z0 := g5.free 0
  have z1 := g5.free 1
  have z2 := g5.free 2
  have z3 := g5.free 3
  have z4 := g5.free 4
  have z5 := g5.free 5
  simp at p0 p1 p2 p3 p4 p5 q0 q1 q2 q3 q4 q5
  have hs4 := g4.lt
  have hs5 := g5.lt
  clear g4 g5 f1
  go_wp2
  refine bodyPost_ret (v := (toldV ⟨noF, false, false, 0⟩ (.slice none 0 0))) (by simp [toldV, noF, results, Try.results18, go_sem, p0, p1, p2, p3, p4, p5, q0, q1, q2, q3, q4, q5, hs4, hs5]) rfl ⟨rfl, ?_, ?_⟩
  · have st := hST.out
    exact (st.fr (S := fun b => w.heap.size ≤ b ∧ b < w.heap.size + 3) (by (repeat (first | (with_reducible exact Fr.refl _ _) | (with_reducible assumption) | (with_reducible exact Fr.of_nil (by assumption)) | (with_reducible refine Fr.drew ?_) | (with_reducible refine Fr.drewN ?_ _) | (with_reducible refine Fr.alloc ?_ _) | (with_reducible refine Fr.set ?_ _ _ (by first | (intros; omega) | (simp; done) | (simp; omega))) | (with_reducible refine Fr.via ?_ (by assumption)) | (with_reducible refine Fr.comp ?_ (by assumption))))) (fun b _ q => .inr q) (by simp; omega)).mono (fun b _ q => .inl q) hxx
  · (repeat (first | (with_reducible exact Fr.refl _ _) | (with_reducible assumption) | (with_reducible exact Fr.of_nil (by assumption)) | (with_reducible refine Fr.drew ?_) | (with_reducible refine Fr.drewN ?_ _) | (with_reducible refine Fr.alloc ?_ _) | (with_reducible refine Fr.set ?_ _ _ (by first | (intros; omega) | (simp; done) | (simp; omega))) | (with_reducible refine Fr.via ?_ (by assumption)) | (with_reducible refine Fr.comp ?_ (by assumption))))
theorem do_scan_none (kd : Int) (k0 : kd ≠ 0) (k1 : kd ≠ 1) (k2 : kd ≠ 2) (k3 : kd ≠ 3) (h : StackAt X w bs l room 0) : Calls Try.prog 18 #[.pointer (some ⟨bs, 0, none⟩), .agg #[.int .i64 kd, .int .i64 x.kind, .int .i64 x.node, u]] w fun e w' => e = .returned (toldV ⟨noF, false, false, 0⟩ (.slice none 0 0)) ∧ Fr Nil w w' := by
  go_enter Try.func18, Try.ntmps18
  go_wp2_with fail
  refine (scan_none X bs l room _ (h.fr (S := Nil) (by (repeat (first | (with_reducible exact Fr.refl _ _) | (with_reducible assumption) | (with_reducible exact Fr.of_nil (by assumption)) | (with_reducible refine Fr.drew ?_) | (with_reducible refine Fr.drewN ?_ _) | (with_reducible refine Fr.alloc ?_ _) | (with_reducible refine Fr.set ?_ _ _ (by first | (intros; omega) | (simp; done) | (simp; omega))) | (with_reducible refine Fr.via ?_ (by assumption)) | (with_reducible refine Fr.comp ?_ (by assumption))))) (fun _ _ q => q.elim) (by simp [Nil]))).mono ?_
  rintro e w1 ⟨rfl, f1⟩
  have g4 := f1.blk (b := w.heap.size + 1) (c := #[.int .i64 0, .int .i64 0, .slice none 0 0, .bool false, .bool false, .int .i64 0]) (t := 44) (by (unfold Blk; simp (disch := first | omega | (simp; done) | (simp; omega)) only [hp_drew, hp_drewN, hp_alloc, hp_other, hp_same, hp_new, upd_cells, Option.map_some])) (fun q => by first | exact (show False from q) | (have q' : w.heap.size + 1 = bs := q; have := h.lt; omega))
  have g5 := f1.blk (b := w.heap.size + 2) (c := #[.int .i64 0, .int .i64 0, .slice none 0 0, .bool false, .bool false, .int .i64 0]) (t := 44) (by (unfold Blk; simp (disch := first | omega | (simp; done) | (simp; omega)) only [hp_drew, hp_drewN, hp_alloc, hp_other, hp_same, hp_new, upd_cells, Option.map_some])) (fun q => by first | exact (show False from q) | (have q' : w.heap.size + 2 = bs := q; have := h.lt; omega))
  have hfr : Fr Nil w w1 := Fr.trans (by (repeat (first | (with_reducible exact Fr.refl _ _) | (with_reducible assumption) | (with_reducible exact Fr.of_nil (by assumption)) | (with_reducible refine Fr.drew ?_) | (with_reducible refine Fr.drewN ?_ _) | (with_reducible refine Fr.alloc ?_ _) | (with_reducible refine Fr.set ?_ _ _ (by first | (intros; omega) | (simp; done) | (simp; omega))) | (with_reducible refine Fr.via ?_ (by assumption)) | (with_reducible refine Fr.comp ?_ (by assumption))))) f1 (fun _ _ q => q)
  have p0 := g4.cell 0
  have p1 := g4.cell 1
  have p2 := g4.cell 2
  have p3 := g4.cell 3
  have p4 := g4.cell 4
  have p5 := g4.cell 5
  have q0 := g5.cell 0
  have q1 := g5.cell 1
  have q2 := g5.cell 2
  have q3 := g5.cell 3
  have q4 := g5.cell 4
  have q5 := g5.cell 5
  have y0 := g4.free 0
  have y1 := g4.free 1
  have y2 := g4.free 2
  have y3 := g4.free 3
  have y4 := g4.free 4
  have y5 := g4.free 5
  have z0 := g5.free 0
  have z1 := g5.free 1
  have z2 := g5.free 2
  have z3 := g5.free 3
  have z4 := g5.free 4
  have z5 := g5.free 5
  simp at p0 p1 p2 p3 p4 p5 q0 q1 q2 q3 q4 q5
  have hs4 := g4.lt
  have hs5 := g5.lt
  clear g4 g5 f1
  go_wp2
  refine bodyPost_ret (v := (toldV ⟨noF, false, false, 0⟩ (.slice none 0 0))) (by simp [toldV, noF, results, Try.results18, go_sem, p0, p1, p2, p3, p4, p5, q0, q1, q2, q3, q4, q5, hs4, hs5]) rfl ⟨rfl, ?_⟩
  (repeat (first | (with_reducible exact Fr.refl _ _) | (with_reducible assumption) | (with_reducible exact Fr.of_nil (by assumption)) | (with_reducible refine Fr.drew ?_) | (with_reducible refine Fr.drewN ?_ _) | (with_reducible refine Fr.alloc ?_ _) | (with_reducible refine Fr.set ?_ _ _ (by first | (intros; omega) | (simp; done) | (simp; omega))) | (with_reducible refine Fr.via ?_ (by assumption)) | (with_reducible refine Fr.comp ?_ (by assumption))))
theorem do_scan_some (kd : Int) (k0 : kd ≠ 0) (k1 : kd ≠ 1) (k2 : kd ≠ 2) (k3 : kd ≠ 3) (k : Nat) (f : FrameV) (hk : l[k]? = some f) (hX : ∀ b, X b → b < w.heap.size) (h : StackAt X w bs l room (k + 1)) : Calls Try.prog 18 #[.pointer (some ⟨bs, 0, none⟩), .agg #[.int .i64 kd, .int .i64 x.kind, .int .i64 x.node, u]] w fun e w' => ∃ b', e = .returned (toldV ⟨f, false, true, 0⟩ (.slice (some ⟨b', 0, none⟩) f.words.length f.words.length)) ∧ Blk w' b' (ints f.words) 2 ∧ w.heap.size ≤ b' ∧ StackAt X w' bs l room k ∧ Fr (fun b => b = bs) w w' := by
  have hbs := h.lt
  have hxx := h.hx
  have h' := h.mono (Y := fun b => X b ∨ (w.heap.size ≤ b ∧ b < w.heap.size + 3)) (fun b hb q => q.elim id (fun q => by omega)) (.inl h.hx)
  have hX' : ∀ b, (X b ∨ (w.heap.size ≤ b ∧ b < w.heap.size + 3)) → b < w.heap.size + 3 := fun b q => q.elim (fun q => by have := hX b q; omega) (fun q => q.2)
  go_enter Try.func18, Try.ntmps18
  go_wp2_with fail
  refine (scan_some (fun b => X b ∨ (w.heap.size ≤ b ∧ b < w.heap.size + 3)) bs l room _ k f hk (fun b q => by have := hX' b q; simp; omega) (h'.fr (S := Nil) (by (repeat (first | (with_reducible exact Fr.refl _ _) | (with_reducible assumption) | (with_reducible exact Fr.of_nil (by assumption)) | (with_reducible refine Fr.drew ?_) | (with_reducible refine Fr.drewN ?_ _) | (with_reducible refine Fr.alloc ?_ _) | (with_reducible refine Fr.set ?_ _ _ (by first | (intros; omega) | (simp; done) | (simp; omega))) | (with_reducible refine Fr.via ?_ (by assumption)) | (with_reducible refine Fr.comp ?_ (by assumption))))) (fun _ _ q => q.elim) (by simp [Nil]))).mono ?_
  rintro e w1 ⟨b', rfl, hb', hsz, st, f1⟩
  have g4 := f1.blk (b := w.heap.size + 1) (c := #[.int .i64 0, .int .i64 0, .slice none 0 0, .bool false, .bool false, .int .i64 0]) (t := 44) (by (unfold Blk; simp (disch := first | omega | (simp; done) | (simp; omega)) only [hp_drew, hp_drewN, hp_alloc, hp_other, hp_same, hp_new, upd_cells, Option.map_some])) (fun q => by first | exact (show False from q) | (have q' : w.heap.size + 1 = bs := q; have := h.lt; omega))
  have g5 := f1.blk (b := w.heap.size + 2) (c := #[.int .i64 0, .int .i64 0, .slice none 0 0, .bool false, .bool false, .int .i64 0]) (t := 44) (by (unfold Blk; simp (disch := first | omega | (simp; done) | (simp; omega)) only [hp_drew, hp_drewN, hp_alloc, hp_other, hp_same, hp_new, upd_cells, Option.map_some])) (fun q => by first | exact (show False from q) | (have q' : w.heap.size + 2 = bs := q; have := h.lt; omega))
  simp at hsz
  have hb'l := hb'.lt
  have hST := Lib.hid st
  clear st h h'
  have hfr : Fr (fun b => b = bs) w w1 := Fr.trans (by (repeat (first | (with_reducible exact Fr.refl _ _) | (with_reducible assumption) | (with_reducible exact Fr.of_nil (by assumption)) | (with_reducible refine Fr.drew ?_) | (with_reducible refine Fr.drewN ?_ _) | (with_reducible refine Fr.alloc ?_ _) | (with_reducible refine Fr.set ?_ _ _ (by first | (intros; omega) | (simp; done) | (simp; omega))) | (with_reducible refine Fr.via ?_ (by assumption)) | (with_reducible refine Fr.comp ?_ (by assumption))))) f1 (fun _ _ q => q)
  have p0 := g4.cell 0
  have p1 := g4.cell 1
  have p2 := g4.cell 2
  have p3 := g4.cell 3
  have p4 := g4.cell 4
  have p5 := g4.cell 5
  have q0 := g5.cell 0
  have q1 := g5.cell 1
  have q2 := g5.cell 2
  have q3 := g5.cell 3
  have q4 := g5.cell 4
  have q5 := g5.cell 5
  have y0 := g4.free 0
  have y1 := g4.free 1
  have y2 := g4.free 2
  have y3 := g4.free 3
  have y4 := g4.free 4
  have y5 := g4.free 5
  have z0 := g5.free 0
  have z1 := g5.free 1
  have z2 := g5.free 2
  have z3 := g5.free 3
  have z4 := g5.free 4
  have z5 := g5.free 5
  simp at p0 p1 p2 p3 p4 p5 q0 q1 q2 q3 q4 q5
  have hs4 := g4.lt
  have hs5 := g5.lt
  clear g4 g5 f1
  go_wp2
  refine bodyPost_ret (v := (toldV ⟨f, false, true, 0⟩ (.slice (some ⟨b', 0, none⟩) f.words.length f.words.length))) (by simp [toldV, noF, results, Try.results18, go_sem, p0, p1, p2, p3, p4, p5, q0, q1, q2, q3, q4, q5, hs4, hs5]) rfl ⟨b', rfl, ?_, by omega, ?_, ?_⟩
  · (unfold Blk; simp (disch := first | omega | (simp; done) | (simp; omega)) only [hp_drew, hp_drewN, hp_alloc, hp_other, hp_same, hp_new, upd_cells, Option.map_some, (hb').eq])
  · have st := hST.out
    exact (st.fr (S := fun b => w.heap.size ≤ b ∧ b < w.heap.size + 3) (by (repeat (first | (with_reducible exact Fr.refl _ _) | (with_reducible assumption) | (with_reducible exact Fr.of_nil (by assumption)) | (with_reducible refine Fr.drew ?_) | (with_reducible refine Fr.drewN ?_ _) | (with_reducible refine Fr.alloc ?_ _) | (with_reducible refine Fr.set ?_ _ _ (by first | (intros; omega) | (simp; done) | (simp; omega))) | (with_reducible refine Fr.via ?_ (by assumption)) | (with_reducible refine Fr.comp ?_ (by assumption))))) (fun b _ q => .inr q) (by simp; omega)).mono (fun b _ q => .inl q) hxx
  · (repeat (first | (with_reducible exact Fr.refl _ _) | (with_reducible assumption) | (with_reducible exact Fr.of_nil (by assumption)) | (with_reducible refine Fr.drew ?_) | (with_reducible refine Fr.drewN ?_ _) | (with_reducible refine Fr.alloc ?_ _) | (with_reducible refine Fr.set ?_ _ _ (by first | (intros; omega) | (simp; done) | (simp; omega))) | (with_reducible refine Fr.via ?_ (by assumption)) | (with_reducible refine Fr.comp ?_ (by assumption))))
end
end Go.Proofs.Ytncncoakibilcaa
