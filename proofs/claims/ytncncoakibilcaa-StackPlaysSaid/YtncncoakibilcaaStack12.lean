/-
  Contracts of the document's stack (treadwheelref15): Do.
-/
import Derived.Test.YtncncoakibilcaaStack11
namespace Go.Proofs.Ytncncoakibilcaa
set_option linter.unusedSimpArgs false
set_option linter.unusedVariables false
open Go.RowKit

theorem RefAt.drewN {X : Nat → Prop} {w : World} {br : Nat} {l : List FrameV} {room todo : Nat} (h : RefAt X w br l room todo) (n : Nat) : RefAt X (w.drewN n) br l room todo := h.fr (S := Nil) ((Fr.refl _ _).drewN n) (fun _ _ q => q.elim)
theorem rused_q (X : Nat → Prop) (br : Nat) (l : List FrameV) (room todo : Nat) (w : World) (h : RefAt X w br l room todo) : Calls Try.prog 24 #[.pointer (some ⟨br, 0, none⟩)] w fun e w' => e = .returned (.int .i64 (usedOf l : Nat)) ∧ w' = w :=
  (rused_any X br l room todo w h).mono fun _ _ ⟨a, b⟩ => ⟨a, b.symm⟩
/-- The world behind Do's two first blocks. -/
structure DoAt (w W : World) (kd : Int) (x : FrameV) (u : Value) : Prop where
  fr : Fr Nil w W
  act : Blk W w.heap.size #[.int .i64 kd, .int .i64 x.kind, .int .i64 x.node, u] 34
  told : Blk W (w.heap.size + 1) #[.int .i64 0, .int .i64 0, .slice none 0 0, .bool false, .bool false, .int .i64 0] 44
theorem doAt (w : World) (kd : Int) (x : FrameV) (u : Value) : DoAt w ((w.alloc (.cells #[.int .i64 kd, .int .i64 x.kind, .int .i64 x.node, u] 34)).alloc (.cells #[.int .i64 0, .int .i64 0, .slice none 0 0, .bool false, .bool false, .int .i64 0] 44)) kd x u :=
  ⟨by (repeat (first | (with_reducible exact Fr.refl _ _) | (with_reducible assumption) | (with_reducible exact Fr.of_nil (by assumption)) | (with_reducible refine Fr.drew ?_) | (with_reducible refine Fr.drewN ?_ _) | (with_reducible refine Fr.alloc ?_ _) | (with_reducible refine Fr.set ?_ _ _ (by first | (intros; omega) | (simp; done) | (simp; omega))) | (with_reducible refine Fr.via ?_ (by assumption)) | (with_reducible refine Fr.comp ?_ (by assumption)))), by (unfold Blk; simp (disch := first | omega | (simp; done) | (simp; omega)) only [hp_drew, hp_drewN, hp_alloc, hp_other, hp_same, hp_new, upd_cells, Option.map_some]), by (unfold Blk; simp (disch := first | omega | (simp; done) | (simp; omega)) only [hp_drew, hp_drewN, hp_alloc, hp_other, hp_same, hp_new, upd_cells, Option.map_some])⟩

section
variable (X : Nat → Prop) (br : Nat) (l : List FrameV) (room todo : Nat) (w : World) (x : FrameV) (u : Value)
set_option maxRecDepth 100000 in
set_option maxHeartbeats 1000000 in
theorem rdo_push_out (hxl : x.words.length ≤ 5000) (hu : ∃ a c, u = .slice a x.words.length c) (hout : room < usedOf l + (x.words.length + 2)) (h : RefAt X w br l room todo) :
    Calls Try.prog 23 #[.pointer (some ⟨br, 0, none⟩), .agg #[.int .i64 0, .int .i64 x.kind, .int .i64 x.node, u]] w fun e w' => e = .returned (toldV ⟨noF, false, false, 13⟩ (.slice none 0 0)) ∧ Fr Nil w w' := by
  have hus := h.hused
  have hrm := h.hroom
  have ht : decide ((room : Int) < ((usedOf l : Nat) : Int) + (x.words.length : Int) + 2) = true := by simp; omega
  have hw1 : IntKind.i64.wrap (((usedOf l : Nat) : Int) + (x.words.length : Int)) = ((usedOf l : Nat) : Int) + (x.words.length : Int) := by rw [IntKind.wrap_i64]; omega
  have hw2 : IntKind.i64.wrap (((usedOf l : Nat) : Int) + (x.words.length : Int) + 2) = ((usedOf l : Nat) : Int) + (x.words.length : Int) + 2 := by rw [IntKind.wrap_i64]; omega
  obtain ⟨a, c, rfl⟩ := hu
  have hbr := h.lt
  have hRR := h
  obtain ⟨⟨v', u', r1, hF, hO, hN⟩, hx1, hx2, hx3, hx4, hx5⟩ := hRR
  obtain ⟨av, capv, rfl⟩ := hF.form
  have c0 := r1.cell 0
  simp at c0
  clear r1 hF hO hN hx1 hx2 hx3 hx4 hx5
  have D := doAt w (0) x (.slice a x.words.length c)
  go_enter Try.func23, Try.ntmps23
  go_wp2_with fail
  generalize ((w.alloc (.cells #[.int .i64 0, .int .i64 x.kind, .int .i64 x.node, .slice a x.words.length c] 34)).alloc (.cells #[.int .i64 0, .int .i64 0, .slice none 0 0, .bool false, .bool false, .int .i64 0] 44)) = W at D ⊢
  obtain ⟨fW, r2, r3⟩ := D
  have hR := h.fr fW (fun _ _ q => q.elim)
  have hR' := hR
  obtain ⟨⟨v', u', r1, hF, hO, hN⟩, hx1, hx2, hx3, hx4, hx5⟩ := hR'
  have c2 := r1.cell 2
  have p3 := r2.cell 3
  have q0 := r3.cell 0
  have q1 := r3.cell 1
  have q2 := r3.cell 2
  have q3 := r3.cell 3
  have q4 := r3.cell 4
  have q5 := r3.cell 5
  have y0 := r3.free 0
  have y1 := r3.free 1
  have y2 := r3.free 2
  have y3 := r3.free 3
  have y4 := r3.free 4
  have y5 := r3.free 5
  simp at c2 p3 q0 q1 q2 q3 q4 q5
  have hs3 := r3.lt
  clear r1 r2 r3 h hus hrm hxl hout hF hO hN hx1 hx2 hx3 hx4 hx5
  go_quiet ((go_at_call 24; exact Calls.quiet_of_same (rused_q X br l room todo _ (hR.drewN _))))
  clear ht hw1 hw2
  go_wp2
  refine bodyPost_ret (v := (toldV ⟨noF, false, false, 13⟩ (.slice none 0 0))) (by simp [toldV, noF, results, Try.results23, go_sem, q0, q1, q2, q3, q4, q5, hs3]) rfl ⟨rfl, ?_⟩
  (repeat (first | (with_reducible exact Fr.refl _ _) | (with_reducible assumption) | (with_reducible exact Fr.of_nil (by assumption)) | (with_reducible refine Fr.drew ?_) | (with_reducible refine Fr.drewN ?_ _) | (with_reducible refine Fr.alloc ?_ _) | (with_reducible refine Fr.set ?_ _ _ (by first | (intros; omega) | (simp; done) | (simp; omega))) | (with_reducible refine Fr.via ?_ (by assumption)) | (with_reducible refine Fr.comp ?_ (by assumption))))
set_option maxRecDepth 100000 in
theorem rdo_pop_none (h : RefAt X w br [] room todo) :
    Calls Try.prog 23 #[.pointer (some ⟨br, 0, none⟩), .agg #[.int .i64 1, .int .i64 x.kind, .int .i64 x.node, u]] w fun e w' => e = .returned (toldV ⟨noF, false, false, 0⟩ (.slice none 0 0)) ∧ Fr Nil w w' := by
  have hbr := h.lt
  obtain ⟨⟨v', u', r1, hF, hO, hN⟩, hx1, hx2, hx3, hx4, hx5⟩ := h
  have c0 := r1.cell 0
  simp at c0
  obtain ⟨a, cap, rfl⟩ := hF.form
  simp only [List.length_nil] at c0
  clear r1 hF hO hN hx1 hx2 hx3 hx4 hx5
  go_enter Try.func23, Try.ntmps23
  go_wp2
  refine bodyPost_ret (v := (toldV ⟨noF, false, false, 0⟩ (.slice none 0 0))) (by simp [toldV, noF, results, Try.results23, go_sem]) rfl ⟨rfl, ?_⟩
  (repeat (first | (with_reducible exact Fr.refl _ _) | (with_reducible assumption) | (with_reducible exact Fr.of_nil (by assumption)) | (with_reducible refine Fr.drew ?_) | (with_reducible refine Fr.drewN ?_ _) | (with_reducible refine Fr.alloc ?_ _) | (with_reducible refine Fr.set ?_ _ _ (by first | (intros; omega) | (simp; done) | (simp; omega))) | (with_reducible refine Fr.via ?_ (by assumption)) | (with_reducible refine Fr.comp ?_ (by assumption))))
set_option maxRecDepth 100000 in
theorem rdo_top_none (h : RefAt X w br [] room todo) :
    Calls Try.prog 23 #[.pointer (some ⟨br, 0, none⟩), .agg #[.int .i64 2, .int .i64 x.kind, .int .i64 x.node, u]] w fun e w' => e = .returned (toldV ⟨noF, false, false, 0⟩ (.slice none 0 0)) ∧ Fr Nil w w' := by
  have hbr := h.lt
  obtain ⟨⟨v', u', r1, hF, hO, hN⟩, hx1, hx2, hx3, hx4, hx5⟩ := h
  have c0 := r1.cell 0
  simp at c0
  obtain ⟨a, cap, rfl⟩ := hF.form
  simp only [List.length_nil] at c0
  clear r1 hF hO hN hx1 hx2 hx3 hx4 hx5
  go_enter Try.func23, Try.ntmps23
  go_wp2
  refine bodyPost_ret (v := (toldV ⟨noF, false, false, 0⟩ (.slice none 0 0))) (by simp [toldV, noF, results, Try.results23, go_sem]) rfl ⟨rfl, ?_⟩
  (repeat (first | (with_reducible exact Fr.refl _ _) | (with_reducible assumption) | (with_reducible exact Fr.of_nil (by assumption)) | (with_reducible refine Fr.drew ?_) | (with_reducible refine Fr.drewN ?_ _) | (with_reducible refine Fr.alloc ?_ _) | (with_reducible refine Fr.set ?_ _ _ (by first | (intros; omega) | (simp; done) | (simp; omega))) | (with_reducible refine Fr.via ?_ (by assumption)) | (with_reducible refine Fr.comp ?_ (by assumption))))
set_option maxRecDepth 100000 in
set_option maxHeartbeats 1000000 in
theorem rdo_top_some (k : Nat) (f : FrameV) (hk : l[k]? = some f) (hkl : l.length = k + 1) (h : RefAt X w br l room todo) :
    Calls Try.prog 23 #[.pointer (some ⟨br, 0, none⟩), .agg #[.int .i64 2, .int .i64 x.kind, .int .i64 x.node, u]] w fun e w' => ∃ vf, e = .returned (toldV ⟨f, false, true, 0⟩ vf) ∧ IntsAt X w' vf f.words ∧ Fr Nil w w' := by
  have hbr := h.lt
  have hll : l.length ≤ 4096 := by have := usedOf_len l; have := h.hused; have := h.hroom; omega
  obtain ⟨⟨v', u', r1, hF, hO, hN⟩, hx1, hx2, hx3, hx4, hx5⟩ := h
  obtain ⟨g, cap, uf, rfl, _, hcap, e0, e1, e2, hu⟩ := hF.at hk
  have hg : g < w.heap.size := World.block_lt_of_cell? _ _ e0
  have hne : ((k : Int) + 1 == 0) = false := by simp; omega
  have b1 : (0 : Int) ≤ (k : Int) := by omega
  have b2 : (k : Int) ≤ 4096 := by omega
  have b3 : (k : Int) < (k : Int) + 1 := by omega
  rw [hkl] at r1
  have c0 := r1.cell 0
  simp at c0
  obtain ⟨au, cu, rfl, hcu⟩ := hu
  have HU := Lib.hid (show IntsAt X w (.slice au f.words.length cu) f.words from (IntsAt.mono ⟨au, cu, rfl, hcu⟩ (fun b _ q => .inl q)))
  clear r1 hF hO hN hx1 hx2 hx3 hx4 hx5 hkl hk hcu hll
  go_enter Try.func23, Try.ntmps23
  go_wp2
  refine bodyPost_ret (v := (toldV ⟨f, false, true, 0⟩ (.slice au f.words.length cu))) (by simp [toldV, noF, results, Try.results23, go_sem]) rfl ⟨_, rfl, HU.out.fr (S := Nil) (by (repeat (first | (with_reducible exact Fr.refl _ _) | (with_reducible assumption) | (with_reducible exact Fr.of_nil (by assumption)) | (with_reducible refine Fr.drew ?_) | (with_reducible refine Fr.drewN ?_ _) | (with_reducible refine Fr.alloc ?_ _) | (with_reducible refine Fr.set ?_ _ _ (by first | (intros; omega) | (simp; done) | (simp; omega))) | (with_reducible refine Fr.via ?_ (by assumption)) | (with_reducible refine Fr.comp ?_ (by assumption))))) (fun _ _ q => q.elim), ?_⟩
  (repeat (first | (with_reducible exact Fr.refl _ _) | (with_reducible assumption) | (with_reducible exact Fr.of_nil (by assumption)) | (with_reducible refine Fr.drew ?_) | (with_reducible refine Fr.drewN ?_ _) | (with_reducible refine Fr.alloc ?_ _) | (with_reducible refine Fr.set ?_ _ _ (by first | (intros; omega) | (simp; done) | (simp; omega))) | (with_reducible refine Fr.via ?_ (by assumption)) | (with_reducible refine Fr.comp ?_ (by assumption))))
end
end Go.Proofs.Ytncncoakibilcaa
