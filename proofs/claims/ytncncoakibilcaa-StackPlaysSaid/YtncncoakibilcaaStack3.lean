/-
  Contracts of package stack: at, Top, Scan, Pop.
-/
import Derived.Test.YtncncoakibilcaaStack2
namespace Go.Proofs.Ytncncoakibilcaa
set_option linter.unusedSimpArgs false
set_option linter.unusedVariables false
open Go.RowKit

theorem FramesAt.at {X : Nat → Prop} {w : World} {v : Value} {l : List FrameV} (h : FramesAt X w v l) {k : Nat} {f : FrameV} (hk : l[k]? = some f) :
    ∃ g cap u, v = .slice (some ⟨g, 0, none⟩) l.length cap ∧ k < l.length ∧ l.length ≤ cap ∧ w.cell? ⟨g, k * 3, none⟩ = some (.int .i64 f.kind) ∧ w.cell? ⟨g, k * 3 + 1, none⟩ = some (.int .i64 f.node) ∧ w.cell? ⟨g, k * 3 + 2, none⟩ = some u ∧ IntsAt X w u f.words := by
  rcases h with ⟨rfl, rfl⟩ | ⟨g, cap, cs, rfl, h2, h3, h4, h5, h6⟩
  · simp at hk
  · have hkl : k < l.length := by
      rcases Nat.lt_or_ge k l.length with q | q
      · exact q
      · rw [List.getElem?_eq_none q] at hk; cases hk
    obtain ⟨e0, e1, u, e2, e3⟩ := h6.2 k f hk
    exact ⟨g, cap, u, rfl, hkl, h2, h5 _ _ e0, h5 _ _ e1, h5 _ _ e2, e3⟩

section
variable (X : Nat → Prop) (bs : Nat) (l : List FrameV) (room todo : Nat) (w : World)
theorem at_none (h : StackAt X w bs l room todo) : Calls Try.prog 29 #[.pointer (some ⟨bs, 0, none⟩), .int .i64 0] w fun e w' => e = .returned (.tuple #[.agg #[.int .i64 0, .int .i64 0, .slice none 0 0], .bool false]) ∧ Fr Nil w w' := by
  go_enter Try.func29, Try.ntmps29
  go_wp2
  refine bodyPost_ret (v := .tuple #[.agg #[.int .i64 0, .int .i64 0, .slice none 0 0], .bool false]) (by simp [results, Try.results29, go_sem]) rfl ⟨rfl, ?_⟩
  (repeat (first | (with_reducible exact Fr.refl _ _) | (with_reducible assumption) | (with_reducible exact Fr.of_nil (by assumption)) | (with_reducible refine Fr.drew ?_) | (with_reducible refine Fr.drewN ?_ _) | (with_reducible refine Fr.alloc ?_ _) | (with_reducible refine Fr.set ?_ _ _ (by first | (intros; omega) | (simp; done) | (simp; omega))) | (with_reducible refine Fr.via ?_ (by assumption)) | (with_reducible refine Fr.comp ?_ (by assumption))))
theorem at_some (k : Nat) (f : FrameV) (hk : l[k]? = some f) (hX : ∀ b, X b → b < w.heap.size) (h : StackAt X w bs l room todo) :
    Calls Try.prog 29 #[.pointer (some ⟨bs, 0, none⟩), .int .i64 ((k : Int) + 1)] w fun e w' =>
      ∃ b', e = .returned (.tuple #[.agg #[.int .i64 f.kind, .int .i64 f.node, .slice (some ⟨b', 0, none⟩) f.words.length f.words.length], .bool true]) ∧ Blk w' b' (ints f.words) 2 ∧ w.heap.size ≤ b' ∧ Fr Nil w w' := by
  have hfl : f.words.length ≤ 5000 := h.hwords f (List.mem_of_getElem? hk)
  have hll : l.length ≤ 4096 := by have := usedOf_len l; have := h.hused; have := h.hroom; omega
  obtain ⟨⟨v, h1, h2⟩, h3, h4, h5, h6, h7⟩ := h
  obtain ⟨g, cap, u, rfl, hkl, hcap, e0, e1, e2, hu⟩ := h2.at hk
  have c0 := h1.cell 0
  simp at c0
  have hbs := h1.lt
  have hg : g < w.heap.size := World.block_lt_of_cell? _ _ e0
  have hne : ((k : Int) + 1 == 0) = false := by simp; omega
  clear h1 h2 h4 h5 h7
  go_enter Try.func29, Try.ntmps29
  go_wp2_with fail
  refine (copied_any X f u _ (hu.fr (S := Nil) (by (repeat (first | (with_reducible exact Fr.refl _ _) | (with_reducible assumption) | (with_reducible exact Fr.of_nil (by assumption)) | (with_reducible refine Fr.drew ?_) | (with_reducible refine Fr.drewN ?_ _) | (with_reducible refine Fr.alloc ?_ _) | (with_reducible refine Fr.set ?_ _ _ (by first | (intros; omega) | (simp; done) | (simp; omega))) | (with_reducible refine Fr.via ?_ (by assumption)) | (with_reducible refine Fr.comp ?_ (by assumption))))) (fun _ _ q => q.elim)) hfl (fun b q => by have := hX b q; simp; omega)).mono ?_
  rintro e w1 ⟨b', rfl, hb', hsz, f1⟩
  simp at hsz
  have g1 := f1.blk (b := w.heap.size) (c := #[.int .i64 0, .int .i64 0, .slice none 0 0]) (t := 32) (by (unfold Blk; simp (disch := first | omega | (simp; done) | (simp; omega)) only [hp_drew, hp_drewN, hp_alloc, hp_other, hp_same, hp_new, upd_cells, Option.map_some])) (by simp [Nil])
  have hfr : Fr Nil w w1 := Fr.trans (by (repeat (first | (with_reducible exact Fr.refl _ _) | (with_reducible assumption) | (with_reducible exact Fr.of_nil (by assumption)) | (with_reducible refine Fr.drew ?_) | (with_reducible refine Fr.drewN ?_ _) | (with_reducible refine Fr.alloc ?_ _) | (with_reducible refine Fr.set ?_ _ _ (by first | (intros; omega) | (simp; done) | (simp; omega))) | (with_reducible refine Fr.via ?_ (by assumption)) | (with_reducible refine Fr.comp ?_ (by assumption))))) f1 (fun _ _ q => q)
  have q0 := g1.cell 0
  have q1 := g1.cell 1
  have q2 := g1.cell 2
  have z0 := g1.free 0
  have z1 := g1.free 1
  have z2 := g1.free 2
  simp at q0 q1 q2
  have hs1 := g1.lt
  clear f1 g1 c0 e0 e1 e2 hne hu
  go_wp2
  refine bodyPost_ret (v := .tuple #[.agg #[.int .i64 f.kind, .int .i64 f.node, .slice (some ⟨b', 0, none⟩) f.words.length f.words.length], .bool true]) (by simp [results, Try.results29, go_sem, q0, q1, q2]) rfl ⟨_, rfl, ?_, by omega, ?_⟩
  · (unfold Blk; simp (disch := first | omega | (simp; done) | (simp; omega)) only [hp_drew, hp_drewN, hp_alloc, hp_other, hp_same, hp_new, upd_cells, Option.map_some, (hb').eq])
  · (repeat (first | (with_reducible exact Fr.refl _ _) | (with_reducible assumption) | (with_reducible exact Fr.of_nil (by assumption)) | (with_reducible refine Fr.drew ?_) | (with_reducible refine Fr.drewN ?_ _) | (with_reducible refine Fr.alloc ?_ _) | (with_reducible refine Fr.set ?_ _ _ (by first | (intros; omega) | (simp; done) | (simp; omega))) | (with_reducible refine Fr.via ?_ (by assumption)) | (with_reducible refine Fr.comp ?_ (by assumption))))
theorem top_none (h : StackAt X w bs [] room todo) : Calls Try.prog 21 #[.pointer (some ⟨bs, 0, none⟩)] w fun e w' => e = .returned (.tuple #[.agg #[.int .i64 0, .int .i64 0, .slice none 0 0], .bool false]) ∧ Fr Nil w w' := by
  have h' := h
  obtain ⟨⟨v, h1, h2⟩, h3, h4, h5, h6, h7⟩ := h
  have c0 := h1.cell 0
  simp at c0
  have hbs := h1.lt
  obtain ⟨a, cap, rfl⟩ : ∃ a cap, v = .slice a 0 cap := by
    rcases h2 with ⟨rfl, _⟩ | ⟨g, cap, cs, rfl, _⟩
    · exact ⟨_, _, rfl⟩
    · exact ⟨_, _, rfl⟩
  clear h1 h2
  go_enter Try.func21, Try.ntmps21
  go_wp2_with fail
  refine (at_none X bs [] room todo _ (h'.fr (S := Nil) (by (repeat (first | (with_reducible exact Fr.refl _ _) | (with_reducible assumption) | (with_reducible exact Fr.of_nil (by assumption)) | (with_reducible refine Fr.drew ?_) | (with_reducible refine Fr.drewN ?_ _) | (with_reducible refine Fr.alloc ?_ _) | (with_reducible refine Fr.set ?_ _ _ (by first | (intros; omega) | (simp; done) | (simp; omega))) | (with_reducible refine Fr.via ?_ (by assumption)) | (with_reducible refine Fr.comp ?_ (by assumption))))) (fun _ _ q => q.elim) (by simp [Nil]))).mono ?_
  rintro e w1 ⟨rfl, f1⟩
  have g1 := f1.blk (b := w.heap.size) (c := #[.int .i64 0, .int .i64 0, .slice none 0 0]) (t := 32) (by (unfold Blk; simp (disch := first | omega | (simp; done) | (simp; omega)) only [hp_drew, hp_drewN, hp_alloc, hp_other, hp_same, hp_new, upd_cells, Option.map_some])) (by simp [Nil])
  have hfr : Fr Nil w w1 := Fr.trans (by (repeat (first | (with_reducible exact Fr.refl _ _) | (with_reducible assumption) | (with_reducible exact Fr.of_nil (by assumption)) | (with_reducible refine Fr.drew ?_) | (with_reducible refine Fr.drewN ?_ _) | (with_reducible refine Fr.alloc ?_ _) | (with_reducible refine Fr.set ?_ _ _ (by first | (intros; omega) | (simp; done) | (simp; omega))) | (with_reducible refine Fr.via ?_ (by assumption)) | (with_reducible refine Fr.comp ?_ (by assumption))))) f1 (fun _ _ q => q)
  have q0 := g1.cell 0
  have q1 := g1.cell 1
  have q2 := g1.cell 2
  have z0 := g1.free 0
  have z1 := g1.free 1
  have z2 := g1.free 2
  simp at q0 q1 q2
  clear f1 g1 c0
  go_wp2
  refine bodyPost_ret (v := .tuple #[.agg #[.int .i64 0, .int .i64 0, .slice none 0 0], .bool false]) (by simp [results, Try.results21, go_sem, q0, q1, q2]) rfl ⟨rfl, ?_⟩
  (repeat (first | (with_reducible exact Fr.refl _ _) | (with_reducible assumption) | (with_reducible exact Fr.of_nil (by assumption)) | (with_reducible refine Fr.drew ?_) | (with_reducible refine Fr.drewN ?_ _) | (with_reducible refine Fr.alloc ?_ _) | (with_reducible refine Fr.set ?_ _ _ (by first | (intros; omega) | (simp; done) | (simp; omega))) | (with_reducible refine Fr.via ?_ (by assumption)) | (with_reducible refine Fr.comp ?_ (by assumption))))
theorem top_some (k : Nat) (f : FrameV) (hk : l[k]? = some f) (hkl : l.length = k + 1) (hX : ∀ b, X b → b < w.heap.size) (h : StackAt X w bs l room todo) :
    Calls Try.prog 21 #[.pointer (some ⟨bs, 0, none⟩)] w fun e w' =>
      ∃ b', e = .returned (.tuple #[.agg #[.int .i64 f.kind, .int .i64 f.node, .slice (some ⟨b', 0, none⟩) f.words.length f.words.length], .bool true]) ∧ Blk w' b' (ints f.words) 2 ∧ w.heap.size ≤ b' ∧ Fr Nil w w' := by
  have h' := h
  obtain ⟨⟨v, h1, h2⟩, h3, h4, h5, h6, h7⟩ := h
  obtain ⟨g, cap, u, rfl, _, hcap, _⟩ := h2.at hk
  have c0 := h1.cell 0
  simp [hkl] at c0
  have hbs := h1.lt
  have hll : l.length ≤ 4096 := by have := usedOf_len l; omega
  clear h1 h2 hcap h4 h5 h7
  have HK := Lib.hid hkl
  have hk4 : k < 4096 := by omega
  clear hkl hll
  go_enter Try.func21, Try.ntmps21
  go_wp2_with fail
  refine (at_some X bs l room todo _ k f hk (fun b q => by have := hX b q; simp; omega) (h'.fr (S := Nil) (by (repeat (first | (with_reducible exact Fr.refl _ _) | (with_reducible assumption) | (with_reducible exact Fr.of_nil (by assumption)) | (with_reducible refine Fr.drew ?_) | (with_reducible refine Fr.drewN ?_ _) | (with_reducible refine Fr.alloc ?_ _) | (with_reducible refine Fr.set ?_ _ _ (by first | (intros; omega) | (simp; done) | (simp; omega))) | (with_reducible refine Fr.via ?_ (by assumption)) | (with_reducible refine Fr.comp ?_ (by assumption))))) (fun _ _ q => q.elim) (by simp [Nil]))).mono ?_
  rintro e w1 ⟨b', rfl, hb', hsz, f1⟩
  simp at hsz
  have g1 := f1.blk (b := w.heap.size) (c := #[.int .i64 0, .int .i64 0, .slice none 0 0]) (t := 32) (by (unfold Blk; simp (disch := first | omega | (simp; done) | (simp; omega)) only [hp_drew, hp_drewN, hp_alloc, hp_other, hp_same, hp_new, upd_cells, Option.map_some])) (by simp [Nil])
  have hfr : Fr Nil w w1 := Fr.trans (by (repeat (first | (with_reducible exact Fr.refl _ _) | (with_reducible assumption) | (with_reducible exact Fr.of_nil (by assumption)) | (with_reducible refine Fr.drew ?_) | (with_reducible refine Fr.drewN ?_ _) | (with_reducible refine Fr.alloc ?_ _) | (with_reducible refine Fr.set ?_ _ _ (by first | (intros; omega) | (simp; done) | (simp; omega))) | (with_reducible refine Fr.via ?_ (by assumption)) | (with_reducible refine Fr.comp ?_ (by assumption))))) f1 (fun _ _ q => q)
  have q0 := g1.cell 0
  have q1 := g1.cell 1
  have q2 := g1.cell 2
  have z0 := g1.free 0
  have z1 := g1.free 1
  have z2 := g1.free 2
  simp at q0 q1 q2
  have hs1 := g1.lt
  clear f1 g1 c0
  go_wp2
  refine bodyPost_ret (v := .tuple #[.agg #[.int .i64 f.kind, .int .i64 f.node, .slice (some ⟨b', 0, none⟩) f.words.length f.words.length], .bool true]) (by simp [results, Try.results21, go_sem, q0, q1, q2]) rfl ⟨_, rfl, ?_, by omega, ?_⟩
  · (unfold Blk; simp (disch := first | omega | (simp; done) | (simp; omega)) only [hp_drew, hp_drewN, hp_alloc, hp_other, hp_same, hp_new, upd_cells, Option.map_some, (hb').eq])
  · (repeat (first | (with_reducible exact Fr.refl _ _) | (with_reducible assumption) | (with_reducible exact Fr.of_nil (by assumption)) | (with_reducible refine Fr.drew ?_) | (with_reducible refine Fr.drewN ?_ _) | (with_reducible refine Fr.alloc ?_ _) | (with_reducible refine Fr.set ?_ _ _ (by first | (intros; omega) | (simp; done) | (simp; omega))) | (with_reducible refine Fr.via ?_ (by assumption)) | (with_reducible refine Fr.comp ?_ (by assumption))))
end
end Go.Proofs.Ytncncoakibilcaa
