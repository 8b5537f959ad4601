/-
  Contracts of package stack: Scan, Pop.
-/
import Derived.Test.YtncncoakibilcaaStack3
import Derived.Deep.RegionWith
import Derived.Deep.RegionHeld3
namespace Go.Proofs.Ytncncoakibilcaa
set_option linter.unusedSimpArgs false
set_option linter.unusedVariables false
open Go.RowKit

theorem FramesAt.take {X : Nat → Prop} {w : World} {g cap : Nat} {l : List FrameV} (h : FramesAt X w (.slice (some ⟨g, 0, none⟩) l.length cap) l) (k : Nat) (hk : k ≤ l.length) : FramesAt X w (.slice (some ⟨g, 0, none⟩) k cap) (l.take k) := by
  rcases h with ⟨h, _⟩ | ⟨g', cap', cs, e, h2, h3, h4, h5, h6⟩
  · cases h
  · cases e
    refine .inr ⟨g, cap, cs.take (k * 3), ?_, ?_, h3, h4, fun j u hj => ?_, h6.take k hk⟩
    · rw [List.length_take, Nat.min_eq_left hk]
    · rw [List.length_take, Nat.min_eq_left hk]; omega
    · rcases Nat.lt_or_ge j (k * 3) with q | q
      · rw [List.getElem?_take_of_lt q] at hj; exact h5 j u hj
      · rw [List.getElem?_eq_none (by simp; omega)] at hj; cases hj

section
variable (X : Nat → Prop) (bs : Nat) (l : List FrameV) (room todo : Nat) (w : World)
theorem scan_none (h : StackAt X w bs l room 0) : Calls Try.prog 19 #[.pointer (some ⟨bs, 0, none⟩)] w fun e w' => e = .returned (.tuple #[.agg #[.int .i64 0, .int .i64 0, .slice none 0 0], .bool false]) ∧ Fr Nil w w' := by
  have h' := h
  obtain ⟨⟨v, h1, h2⟩, h3, h4, h5, h6, h7⟩ := h
  have c3 := h1.cell 3
  simp at c3
  have hbs := h1.lt
  clear h1 h2
  go_enter Try.func19, Try.ntmps19
  go_wp2_with fail
  refine (at_none X bs l room 0 _ (h'.fr (S := Nil) (by (repeat (first | (with_reducible exact Fr.refl _ _) | (with_reducible assumption) | (with_reducible exact Fr.of_nil (by assumption)) | (with_reducible refine Fr.drew ?_) | (with_reducible refine Fr.drewN ?_ _) | (with_reducible refine Fr.alloc ?_ _) | (with_reducible refine Fr.set ?_ _ _ (by first | (intros; omega) | (simp; done) | (simp; omega))) | (with_reducible refine Fr.via ?_ (by assumption)) | (with_reducible refine Fr.comp ?_ (by assumption))))) (fun _ _ q => q.elim) (by simp [Nil]))).mono ?_
  rintro e w1 ⟨rfl, f1⟩
  have g1 := f1.blk (b := w.heap.size) (c := #[.int .i64 0, .int .i64 0, .slice none 0 0]) (t := 32) (by (unfold Blk; simp (disch := first | omega | (simp; done) | (simp; omega)) only [hp_drew, hp_drewN, hp_alloc, hp_other, hp_same, hp_new, upd_cells, Option.map_some])) (by simp [Nil])
  have hfr : Fr Nil w w1 := Fr.trans (by (repeat (first | (with_reducible exact Fr.refl _ _) | (with_reducible assumption) | (with_reducible exact Fr.of_nil (by assumption)) | (with_reducible refine Fr.drew ?_) | (with_reducible refine Fr.drewN ?_ _) | (with_reducible refine Fr.alloc ?_ _) | (with_reducible refine Fr.set ?_ _ _ (by first | (intros; omega) | (simp; done) | (simp; omega))) | (with_reducible refine Fr.via ?_ (by assumption)) | (with_reducible refine Fr.comp ?_ (by assumption))))) f1 (fun _ _ q => q)
  have q0 := g1.cell 0
  have q1 := g1.cell 1
  have q2 := g1.cell 2
  have z0 := g1.free 0
  have z1 := g1.free 1
  have z2 := g1.free 2
  simp at q0 q1 q2
  have hs1 := g1.lt
  clear f1 g1 c3
  go_wp2
  refine bodyPost_ret (v := .tuple #[.agg #[.int .i64 0, .int .i64 0, .slice none 0 0], .bool false]) (by simp [results, Try.results19, go_sem, q0, q1, q2, hs1]) rfl ⟨rfl, ?_⟩
  (repeat (first | (with_reducible exact Fr.refl _ _) | (with_reducible assumption) | (with_reducible exact Fr.of_nil (by assumption)) | (with_reducible refine Fr.drew ?_) | (with_reducible refine Fr.drewN ?_ _) | (with_reducible refine Fr.alloc ?_ _) | (with_reducible refine Fr.set ?_ _ _ (by first | (intros; omega) | (simp; done) | (simp; omega))) | (with_reducible refine Fr.via ?_ (by assumption)) | (with_reducible refine Fr.comp ?_ (by assumption))))
theorem scan_some (k : Nat) (f : FrameV) (hk : l[k]? = some f) (hX : ∀ b, X b → b < w.heap.size) (h : StackAt X w bs l room (k + 1)) :
    Calls Try.prog 19 #[.pointer (some ⟨bs, 0, none⟩)] w fun e w' =>
      ∃ b', e = .returned (.tuple #[.agg #[.int .i64 f.kind, .int .i64 f.node, .slice (some ⟨b', 0, none⟩) f.words.length f.words.length], .bool true]) ∧ Blk w' b' (ints f.words) 2 ∧ w.heap.size ≤ b' ∧ StackAt X w' bs l room k ∧ Fr (fun b => b = bs) w w' := by
  have h' := h
  obtain ⟨⟨v, h1, h2⟩, h3, h4, h5, h6, h7⟩ := h
  have c3 := h1.cell 3
  simp at c3
  have hbs := h1.lt
  have hll : l.length ≤ 4096 := by have := usedOf_len l; omega
  have hkl : k < 4096 := by omega
  have hkl' : k ≤ l.length := by omega
  clear hll h4
  go_enter Try.func19, Try.ntmps19
  go_wp2_with fail
  refine (at_some X bs l room (k + 1) _ k f hk (fun b q => by have := hX b q; simp; omega) (h'.fr (S := Nil) (by (repeat (first | (with_reducible exact Fr.refl _ _) | (with_reducible assumption) | (with_reducible exact Fr.of_nil (by assumption)) | (with_reducible refine Fr.drew ?_) | (with_reducible refine Fr.drewN ?_ _) | (with_reducible refine Fr.alloc ?_ _) | (with_reducible refine Fr.set ?_ _ _ (by first | (intros; omega) | (simp; done) | (simp; omega))) | (with_reducible refine Fr.via ?_ (by assumption)) | (with_reducible refine Fr.comp ?_ (by assumption))))) (fun _ _ q => q.elim) (by simp [Nil]))).mono ?_
  rintro e w1 ⟨b', rfl, hb', hsz, f1⟩
  simp at hsz
  have g1 := f1.blk (b := w.heap.size) (c := #[.int .i64 0, .int .i64 0, .slice none 0 0]) (t := 32) (by (unfold Blk; simp (disch := first | omega | (simp; done) | (simp; omega)) only [hp_drew, hp_drewN, hp_alloc, hp_other, hp_same, hp_new, upd_cells, Option.map_some])) (by simp [Nil])
  have hfr : Fr Nil w w1 := Fr.trans (by (repeat (first | (with_reducible exact Fr.refl _ _) | (with_reducible assumption) | (with_reducible exact Fr.of_nil (by assumption)) | (with_reducible refine Fr.drew ?_) | (with_reducible refine Fr.drewN ?_ _) | (with_reducible refine Fr.alloc ?_ _) | (with_reducible refine Fr.set ?_ _ _ (by first | (intros; omega) | (simp; done) | (simp; omega))) | (with_reducible refine Fr.via ?_ (by assumption)) | (with_reducible refine Fr.comp ?_ (by assumption))))) f1 (fun _ _ q => q)
  have h1w := hfr.blk h1 (by simp [Nil])
  have h2w := h2.fr hfr (fun _ _ q => q.elim)
  have q0 := g1.cell 0
  have q1 := g1.cell 1
  have q2 := g1.cell 2
  have z0 := g1.free 0
  have z1 := g1.free 1
  have z2 := g1.free 2
  have d3 := h1w.cell 3
  have y3 := h1w.free 3
  simp at q0 q1 q2 d3
  have hs1 := g1.lt
  have hs2 := h1w.lt
  have hs3 := hb'.lt
  have hne : bs ≠ w.heap.size := by omega
  clear f1 c3 h1 h'
  go_wp2
  refine bodyPost_ret (v := .tuple #[.agg #[.int .i64 f.kind, .int .i64 f.node, .slice (some ⟨b', 0, none⟩) f.words.length f.words.length], .bool true]) (by simp [results, Try.results19, go_sem, q0, q1, q2, hs1]) rfl ⟨_, rfl, ?_, by omega, ⟨⟨v, ?_, h2.fr (S := fun b => b = bs) ?_ (fun b _ q => q ▸ h3)⟩, h3, hkl', h5, h6, h7⟩, ?_⟩
  · (unfold Blk; simp (disch := first | omega | (simp; done) | (simp; omega)) only [hp_drew, hp_drewN, hp_alloc, hp_other, hp_same, hp_new, upd_cells, Option.map_some, (hb').eq])
  · (unfold Blk; simp (disch := first | omega | (simp; done) | (simp; omega)) only [hp_drew, hp_drewN, hp_alloc, hp_other, hp_same, hp_new, upd_cells, Option.map_some, (h1w).eq])
    simp
  · (repeat (first | (with_reducible exact Fr.refl _ _) | (with_reducible assumption) | (with_reducible exact Fr.of_nil (by assumption)) | (with_reducible refine Fr.drew ?_) | (with_reducible refine Fr.drewN ?_ _) | (with_reducible refine Fr.alloc ?_ _) | (with_reducible refine Fr.set ?_ _ _ (by first | (intros; omega) | (simp; done) | (simp; omega))) | (with_reducible refine Fr.via ?_ (by assumption)) | (with_reducible refine Fr.comp ?_ (by assumption))))
  · (repeat (first | (with_reducible exact Fr.refl _ _) | (with_reducible assumption) | (with_reducible exact Fr.of_nil (by assumption)) | (with_reducible refine Fr.drew ?_) | (with_reducible refine Fr.drewN ?_ _) | (with_reducible refine Fr.alloc ?_ _) | (with_reducible refine Fr.set ?_ _ _ (by first | (intros; omega) | (simp; done) | (simp; omega))) | (with_reducible refine Fr.via ?_ (by assumption)) | (with_reducible refine Fr.comp ?_ (by assumption))))
theorem pop_none (h : StackAt X w bs [] room todo) : Calls Try.prog 13 #[.pointer (some ⟨bs, 0, none⟩)] w fun e w' => e = .returned (.tuple #[.agg #[.int .i64 0, .int .i64 0, .slice none 0 0], .bool false, .bool false]) ∧ Fr Nil w w' := by
  have hbs := h.lt
  go_enter Try.func13, Try.ntmps13
  go_wp2_with fail
  refine (top_none X bs room todo _ (h.fr (S := Nil) (by (repeat (first | (with_reducible exact Fr.refl _ _) | (with_reducible assumption) | (with_reducible exact Fr.of_nil (by assumption)) | (with_reducible refine Fr.drew ?_) | (with_reducible refine Fr.drewN ?_ _) | (with_reducible refine Fr.alloc ?_ _) | (with_reducible refine Fr.set ?_ _ _ (by first | (intros; omega) | (simp; done) | (simp; omega))) | (with_reducible refine Fr.via ?_ (by assumption)) | (with_reducible refine Fr.comp ?_ (by assumption))))) (fun _ _ q => q.elim) (by simp [Nil]))).mono ?_
  rintro e w1 ⟨rfl, f1⟩
  have g1 := f1.blk (b := w.heap.size) (c := #[.int .i64 0, .int .i64 0, .slice none 0 0]) (t := 32) (by (unfold Blk; simp (disch := first | omega | (simp; done) | (simp; omega)) only [hp_drew, hp_drewN, hp_alloc, hp_other, hp_same, hp_new, upd_cells, Option.map_some])) (by simp [Nil])
  have hfr : Fr Nil w w1 := Fr.trans (by (repeat (first | (with_reducible exact Fr.refl _ _) | (with_reducible assumption) | (with_reducible exact Fr.of_nil (by assumption)) | (with_reducible refine Fr.drew ?_) | (with_reducible refine Fr.drewN ?_ _) | (with_reducible refine Fr.alloc ?_ _) | (with_reducible refine Fr.set ?_ _ _ (by first | (intros; omega) | (simp; done) | (simp; omega))) | (with_reducible refine Fr.via ?_ (by assumption)) | (with_reducible refine Fr.comp ?_ (by assumption))))) f1 (fun _ _ q => q)
  have q0 := g1.cell 0
  have q1 := g1.cell 1
  have q2 := g1.cell 2
  have z0 := g1.free 0
  have z1 := g1.free 1
  have z2 := g1.free 2
  simp at q0 q1 q2
  have hs1 := g1.lt
  clear f1 g1 h
  go_wp2
  refine bodyPost_ret (v := .tuple #[.agg #[.int .i64 0, .int .i64 0, .slice none 0 0], .bool false, .bool false]) (by simp [results, Try.results13, go_sem, q0, q1, q2, hs1]) rfl ⟨rfl, ?_⟩
  (repeat (first | (with_reducible exact Fr.refl _ _) | (with_reducible assumption) | (with_reducible exact Fr.of_nil (by assumption)) | (with_reducible refine Fr.drew ?_) | (with_reducible refine Fr.drewN ?_ _) | (with_reducible refine Fr.alloc ?_ _) | (with_reducible refine Fr.set ?_ _ _ (by first | (intros; omega) | (simp; done) | (simp; omega))) | (with_reducible refine Fr.via ?_ (by assumption)) | (with_reducible refine Fr.comp ?_ (by assumption))))
set_option maxHeartbeats 1000000 in
theorem pop_some (k : Nat) (f : FrameV) (hk : l[k]? = some f) (hkl : l.length = k + 1) (hX : ∀ b, X b → b < w.heap.size) (h : StackAt X w bs l room todo) :
    Calls Try.prog 13 #[.pointer (some ⟨bs, 0, none⟩)] w fun e w' =>
      ∃ b', e = .returned (.tuple #[.agg #[.int .i64 f.kind, .int .i64 f.node, .slice (some ⟨b', 0, none⟩) f.words.length f.words.length], .bool (decide (k < todo)), .bool true]) ∧ Blk w' b' (ints f.words) 2 ∧ w.heap.size ≤ b' ∧ StackAt X w' bs (l.take k) room (min todo k) ∧ Fr (fun b => b = bs) w w' := by
  have h' := h
  have hfl : f.words.length ≤ 5000 := h.hwords f (List.mem_of_getElem? hk)
  obtain ⟨⟨v, h1, h2⟩, h3, h4, h5, h6, h7⟩ := h
  obtain ⟨g, cap, u, rfl, _, hcap, _⟩ := h2.at hk
  have hbs := h1.lt
  have hll : l.length ≤ 4096 := by have := usedOf_len l; omega
  have hk4 : k < 4096 := by omega
  have hck : k + 1 ≤ cap := by omega
  have hU : usedOf l = usedOf (l.take k) + (f.words.length + 2) := by
    have e := usedOf_take l k f hk
    rwa [List.take_of_length_le (by omega)] at e
  have hT : todo ≤ k + 1 := by omega
  have hub : usedOf (l.take k) ≤ 4096 := by omega
  have HKL := Lib.hid hkl
  have HU := Lib.hid hU
  have HF := Lib.hid (h2.take k (by omega))
  have HR := Lib.hid h5
  have hmin : ((if k < todo then (k : Int) else (todo : Int)) : Int) = ((min todo k : Nat) : Int) := by
    split <;> omega
  go_enter Try.func13, Try.ntmps13
  go_wp2_with fail
  refine (top_some X bs l room todo _ k f hk hkl (fun b q => by have := hX b q; simp; omega) (h'.fr (S := Nil) (by (repeat (first | (with_reducible exact Fr.refl _ _) | (with_reducible assumption) | (with_reducible exact Fr.of_nil (by assumption)) | (with_reducible refine Fr.drew ?_) | (with_reducible refine Fr.drewN ?_ _) | (with_reducible refine Fr.alloc ?_ _) | (with_reducible refine Fr.set ?_ _ _ (by first | (intros; omega) | (simp; done) | (simp; omega))) | (with_reducible refine Fr.via ?_ (by assumption)) | (with_reducible refine Fr.comp ?_ (by assumption))))) (fun _ _ q => q.elim) (by simp [Nil]))).mono ?_
  rintro e w1 ⟨b', rfl, hb', hsz, f1⟩
  simp at hsz
  have g1 := f1.blk (b := w.heap.size) (c := #[.int .i64 0, .int .i64 0, .slice none 0 0]) (t := 32) (by (unfold Blk; simp (disch := first | omega | (simp; done) | (simp; omega)) only [hp_drew, hp_drewN, hp_alloc, hp_other, hp_same, hp_new, upd_cells, Option.map_some])) (by simp [Nil])
  have hfr : Fr Nil w w1 := Fr.trans (by (repeat (first | (with_reducible exact Fr.refl _ _) | (with_reducible assumption) | (with_reducible exact Fr.of_nil (by assumption)) | (with_reducible refine Fr.drew ?_) | (with_reducible refine Fr.drewN ?_ _) | (with_reducible refine Fr.alloc ?_ _) | (with_reducible refine Fr.set ?_ _ _ (by first | (intros; omega) | (simp; done) | (simp; omega))) | (with_reducible refine Fr.via ?_ (by assumption)) | (with_reducible refine Fr.comp ?_ (by assumption))))) f1 (fun _ _ q => q)
  have h1w := hfr.blk h1 (by simp [Nil])
  rw [hkl, hU] at h1w
  have q0 := g1.cell 0
  have q1 := g1.cell 1
  have q2 := g1.cell 2
  have z0 := g1.free 0
  have z1 := g1.free 1
  have z2 := g1.free 2
  have d0 := h1w.cell 0
  have d2 := h1w.cell 2
  have d3 := h1w.cell 3
  have y0 := h1w.free 0
  have y2 := h1w.free 2
  have y3 := h1w.free 3
  simp at q0 q1 q2 d0 d2 d3
  have hs1 := g1.lt
  have hs2 := h1w.lt
  have hs3 := hb'.lt
  have hne : bs ≠ w.heap.size := by omega
  have hne' : w.heap.size ≠ bs := by omega
  have b1 : (0 : Int) ≤ (k : Int) := by omega
  have b2 : (k : Int) ≤ (cap : Int) := by omega
  clear f1 h1 h' hU hkl hll hcap h4 h5
  go_wp2
  go_region
  go_wp2
  obtain ⟨W, hW⟩ : ∃ W, W = ((w1.setCell ⟨bs, 0, none⟩ (.slice (some ⟨g, 0, none⟩) k cap)).alloc (.cells #[.int .i64 f.kind, .int .i64 f.node, .slice (some ⟨b', 0, none⟩) f.words.length f.words.length] 32)).drew := ⟨_, rfl⟩
  rw [← hW]
  have r1 : Blk W bs #[.slice (some ⟨g, 0, none⟩) k cap, .int .i64 room, .int .i64 ((usedOf (l.take k) + (f.words.length + 2) : Nat) : Int), .int .i64 todo] 60 := by
    rw [hW]; (unfold Blk; simp (disch := first | omega | (simp; done) | (simp; omega)) only [hp_drew, hp_drewN, hp_alloc, hp_other, hp_same, hp_new, upd_cells, Option.map_some, (h1w).eq]); simp
  have r2 : Blk W w1.heap.size #[.int .i64 f.kind, .int .i64 f.node, .slice (some ⟨b', 0, none⟩) f.words.length f.words.length] 32 := by
    rw [hW]; (unfold Blk; simp (disch := first | omega | (simp; done) | (simp; omega)) only [hp_drew, hp_drewN, hp_alloc, hp_other, hp_same, hp_new, upd_cells, Option.map_some])
  have r3 : Blk W w.heap.size #[.int .i64 0, .int .i64 0, .slice none 0 0] 32 := by
    rw [hW]; (unfold Blk; simp (disch := first | omega | (simp; done) | (simp; omega)) only [hp_drew, hp_drewN, hp_alloc, hp_other, hp_same, hp_new, upd_cells, Option.map_some, (g1).eq])
  have r4 : Blk W b' (ints f.words) 2 := by
    rw [hW]; (unfold Blk; simp (disch := first | omega | (simp; done) | (simp; omega)) only [hp_drew, hp_drewN, hp_alloc, hp_other, hp_same, hp_new, upd_cells, Option.map_some, (hb').eq])
  have r5 : Fr (fun b => b = bs) w W := by
    rw [hW]; (repeat (first | (with_reducible exact Fr.refl _ _) | (with_reducible assumption) | (with_reducible exact Fr.of_nil (by assumption)) | (with_reducible refine Fr.drew ?_) | (with_reducible refine Fr.drewN ?_ _) | (with_reducible refine Fr.alloc ?_ _) | (with_reducible refine Fr.set ?_ _ _ (by first | (intros; omega) | (simp; done) | (simp; omega))) | (with_reducible refine Fr.via ?_ (by assumption)) | (with_reducible refine Fr.comp ?_ (by assumption))))
  clear hW h1w g1 hb' hfr q0 q1 q2 d0 d2 d3 y0 y2 y3 z0 z1 z2
  have d2 := r1.cell 2
  have p0 := r2.cell 0
  have p1 := r2.cell 1
  have p2 := r2.cell 2
  have y2 := r1.free 2
  have hs4 := r1.lt
  have hs5 := r2.lt
  simp at d2 p0 p1 p2
  have hwr : IntKind.i64.wrap ((usedOf (l.take k) : Nat) : Int) = ((usedOf (l.take k) : Nat) : Int) := by rw [IntKind.wrap_i64]; omega
  go_region_with (first
    | (go_at_call 27; refine (size_any (fun _ => False) f _ _ (IntsAt.of_blk (t := 2) (by (unfold Blk; simp (disch := first | omega | (simp; done) | (simp; omega)) only [hp_drew, hp_drewN, hp_alloc, hp_other, hp_same, hp_new, upd_cells, Option.map_some, (r4).eq])) (fun q => q) _) hfl).mono ?_; rintro e w2 ⟨rfl, f2⟩; have r12 := f2.blk r1.drew (by simp [Nil]); have r22 := f2.blk r2.drew (by simp [Nil]); have r32 := f2.blk r3.drew (by simp [Nil]); have r42 := f2.blk r4.drew (by simp [Nil]); have r52 := r5.drew.trans f2 (fun _ _ q => q.elim); have y22 := r12.free 2; have hs6 := r12.lt; have d22 := r12.cell 2; have p02 := r22.cell 0; have p12 := r22.cell 1; have p22 := r22.cell 2; simp at d22 p02 p12 p22))
  all_goals
    obtain ⟨V, hV⟩ : ∃ V, V = w2.setCell ⟨bs, 2, none⟩ (.int .i64 (usedOf (l.take k) : Nat)) := ⟨_, rfl⟩
    rw [← hV]
    have s1 : Blk V bs #[.slice (some ⟨g, 0, none⟩) k cap, .int .i64 room, .int .i64 (usedOf (l.take k) : Nat), .int .i64 todo] 60 := by
      rw [hV]; (unfold Blk; simp (disch := first | omega | (simp; done) | (simp; omega)) only [hp_drew, hp_drewN, hp_alloc, hp_other, hp_same, hp_new, upd_cells, Option.map_some, (r12).eq]); simp
    have s2 : Blk V w1.heap.size #[.int .i64 f.kind, .int .i64 f.node, .slice (some ⟨b', 0, none⟩) f.words.length f.words.length] 32 := by
      rw [hV]; (unfold Blk; simp (disch := first | omega | (simp; done) | (simp; omega)) only [hp_drew, hp_drewN, hp_alloc, hp_other, hp_same, hp_new, upd_cells, Option.map_some, (r22).eq])
    have s3 : Blk V w.heap.size #[.int .i64 0, .int .i64 0, .slice none 0 0] 32 := by
      rw [hV]; (unfold Blk; simp (disch := first | omega | (simp; done) | (simp; omega)) only [hp_drew, hp_drewN, hp_alloc, hp_other, hp_same, hp_new, upd_cells, Option.map_some, (r32).eq])
    have s4 : Blk V b' (ints f.words) 2 := by
      rw [hV]; (unfold Blk; simp (disch := first | omega | (simp; done) | (simp; omega)) only [hp_drew, hp_drewN, hp_alloc, hp_other, hp_same, hp_new, upd_cells, Option.map_some, (r42).eq])
    have s5 : Fr (fun b => b = bs) w V := by
      rw [hV]; (repeat (first | (with_reducible exact Fr.refl _ _) | (with_reducible assumption) | (with_reducible exact Fr.of_nil (by assumption)) | (with_reducible refine Fr.drew ?_) | (with_reducible refine Fr.drewN ?_ _) | (with_reducible refine Fr.alloc ?_ _) | (with_reducible refine Fr.set ?_ _ _ (by first | (intros; omega) | (simp; done) | (simp; omega))) | (with_reducible refine Fr.via ?_ (by assumption)) | (with_reducible refine Fr.comp ?_ (by assumption))))
    clear hV r1 r2 r3 r4 r5 r12 r22 r32 r42 r52 d2 p0 p1 p2 y2 hs4 hs5 hs6 d22 y22 p02 p12 p22 f2 hwr
    have d0 := s1.cell 0
    have d3 := s1.cell 3
    have y3 := s1.free 3
    have q0 := s3.cell 0
    have q1 := s3.cell 1
    have q2 := s3.cell 2
    have z0 := s3.free 0
    have z1 := s3.free 1
    have z2 := s3.free 2
    have p0 := s2.cell 0
    have p1 := s2.cell 1
    have p2 := s2.cell 2
    have hs4 := s1.lt
    have hs5 := s2.lt
    have hs6 := s3.lt
    have hs7 : w1.heap.size ≠ bs := by omega
    simp at d0 d3 q0 q1 q2 p0 p1 p2
    go_wp2
    go_quiet (fail)
    go_wp2
    go_region
  all_goals
    try rw [hmin]
    go_wp2
    refine bodyPost_ret (v := .tuple #[.agg #[.int .i64 f.kind, .int .i64 f.node, .slice (some ⟨b', 0, none⟩) f.words.length f.words.length], .bool (decide (k < todo)), .bool true]) (by simp [results, Try.results13, go_sem, q0, q1, q2, hs6]) rfl ⟨b', rfl, ?_, by omega, ?_, ?_⟩
    · (unfold Blk; simp (disch := first | omega | (simp; done) | (simp; omega)) only [hp_drew, hp_drewN, hp_alloc, hp_other, hp_same, hp_new, upd_cells, Option.map_some, (s4).eq])
    · refine ⟨⟨_, ?_, HF.out.fr (S := fun b => b = bs) ?_ (fun b _ q => by rw [q]; exact h3)⟩, h3, ?_, ?_, h6, fun x hx => h7 x (List.mem_of_mem_take hx)⟩
      · (unfold Blk; simp (disch := first | omega | (simp; done) | (simp; omega)) only [hp_drew, hp_drewN, hp_alloc, hp_other, hp_same, hp_new, upd_cells, Option.map_some, (s1).eq])
        simp
      · (repeat (first | (with_reducible exact Fr.refl _ _) | (with_reducible assumption) | (with_reducible exact Fr.of_nil (by assumption)) | (with_reducible refine Fr.drew ?_) | (with_reducible refine Fr.drewN ?_ _) | (with_reducible refine Fr.alloc ?_ _) | (with_reducible refine Fr.set ?_ _ _ (by first | (intros; omega) | (simp; done) | (simp; omega))) | (with_reducible refine Fr.via ?_ (by assumption)) | (with_reducible refine Fr.comp ?_ (by assumption))))
      · have := HKL.out
        exact Nat.le_trans (Nat.min_le_right _ _) (by rw [List.length_take]; omega)
      · have := HU.out
        have := HR.out
        omega
    · (repeat (first | (with_reducible exact Fr.refl _ _) | (with_reducible assumption) | (with_reducible exact Fr.of_nil (by assumption)) | (with_reducible refine Fr.drew ?_) | (with_reducible refine Fr.drewN ?_ _) | (with_reducible refine Fr.alloc ?_ _) | (with_reducible refine Fr.set ?_ _ _ (by first | (intros; omega) | (simp; done) | (simp; omega))) | (with_reducible refine Fr.via ?_ (by assumption)) | (with_reducible refine Fr.comp ?_ (by assumption))))
end
end Go.Proofs.Ytncncoakibilcaa
