/-
  Contracts of the document's stack (treadwheelref15): Do, Begin and Scan.
-/
import Derived.Test.YtncncoakibilcaaStack13
namespace Go.Proofs.Ytncncoakibilcaa
set_option linter.unusedSimpArgs false
set_option linter.unusedVariables false
open Go.RowKit

/-- The signs alone are turned. -/
theorem signs_turned {X : Nat → Prop} {w W wr Wf : World} {br t room td : Nat} {l : List FrameV} {av au : Option Addr} {capv capu : Nat}
    (r1 : Blk w br #[.slice av l.length capv, .slice au l.length capu, .int .i64 room] 54) (fW : Fr Nil w W) (hf : Fr (fun b => (Value.slice au l.length capu).ownBlock = some b) W wr)
    (hO : wr.ownsRow (br + 1) 4 1 (.slice au l.length capu) l.length (todoL l.length td)) (hF : FramesAt (fun b => X b ∨ TodoX br (.slice au l.length capu) b) w (.slice av l.length capv) l) (hN : ∀ b, (Value.slice au l.length capu).ownBlock = some b → ¬ X b)
    (hL : ∀ k, (Value.slice au l.length capu).ownBlock = some k → br + 1 ≤ k ∧ k < w.heap.size) (ff : Fr (fun b => b = t) wr Wf) (ht : w.heap.size ≤ t) (htd : td ≤ l.length)
    (hx1 : ¬ X br) (hx3 : usedOf l ≤ room) (hx4 : room ≤ 4096) (hx5 : ∀ f ∈ l, f.words.length ≤ 5000) : RefAt X Wf br l room td := by
  have hb := r1.lt
  have f1 : Fr (fun b => (Value.slice au l.length capu).ownBlock = some b) w Wf := (fW.of_nil.comp hf).trans ff (fun k hk q => by omega)
  refine ⟨⟨_, _, f1.blk r1 (fun q => by have := hL br q; omega), hF.fr f1 (fun b _ q => .inr (.inr q)), owns_blk hO (fun g e => ff.block g (Nat.lt_of_lt_of_le (hL g e).2 (Nat.le_trans fW.size hf.size)) (fun q => by have := (hL g e).2; omega)), hN⟩, hx1, htd, hx3, hx4, hx5⟩
theorem ints_turned {X : Nat → Prop} {w W Wf : World} {br t : Nat} {u v : Value} {l : List Int} (h : IntsAt (fun b => X b ∨ TodoX br u b) w v l) (fW : Fr Nil w W) (ff : Fr (fun b => u.ownBlock = some b ∨ b = t) W Wf) (ht : w.heap.size ≤ t) : IntsAt X Wf v l := by
  have h1 : IntsAt (fun b => (X b ∨ TodoX br u b) ∨ b = t) w v l := h.mono (fun b hb q => q.elim id (fun q => by omega))
  exact (((h1.fr fW (fun _ _ q => q.elim)).fr ff (fun b _ q => q.elim (fun q => .inl (.inr (.inr q))) .inr)).mono (fun b _ q => .inl (.inl q)))
section
variable (X : Nat → Prop) (br : Nat) (l : List FrameV) (room todo : Nat) (w : World) (x : FrameV) (u : Value)
set_option maxRecDepth 100000 in
set_option maxHeartbeats 2000000 in
theorem rdo_begin (h : RefAt X w br l room todo) :
    Calls Try.prog 23 #[.pointer (some ⟨br, 0, none⟩), .agg #[.int .i64 3, .int .i64 x.kind, .int .i64 x.node, u]] w fun e w' => e = .returned (toldV ⟨noF, false, false, 0⟩ (.slice none 0 0)) ∧ RefAt X w' br l room l.length ∧ Turn br w w' := by
  have hbr := h.lt
  have hll : l.length ≤ 4096 := by have := usedOf_len l; have := h.hused; have := h.hroom; omega
  obtain ⟨⟨v', u', r1, hF, hO, hN⟩, hx1, hx2, hx3, hx4, hx5⟩ := h
  obtain ⟨av, capv, rfl⟩ := hF.form
  obtain ⟨au, capu, rfl⟩ := owns_shape hO
  have HF := Lib.hid hF
  have HO := Lib.hid hO
  have HR1 := Lib.hid r1
  have HLT := Lib.hid hO.lt
  have HN := Lib.hid hN
  have c0 := r1.cell 0
  simp at c0
  clear hF hN hO
  have D := doAt w (3) x u
  go_enter Try.func23, Try.ntmps23
  go_wp2_with fail
  generalize ((w.alloc (.cells #[.int .i64 3, .int .i64 x.kind, .int .i64 x.node, u] 34)).alloc (.cells #[.int .i64 0, .int .i64 0, .slice none 0 0, .bool false, .bool false, .int .i64 0] 44)) = W at D ⊢
  obtain ⟨fW, r2, r3⟩ := D
  have r1' := fW.blk r1 (by simp [Nil])
  clear c0 r1
  have HOW := Lib.hid (owns_blk (w1 := W) HO.out (fun g e => fW.block g (HLT.out g e).2 (by simp [Nil])))
  go_loopw [7] (fun i wr => ∃ j : Nat, j ≤ l.length ∧ i = .int .i64 j ∧ wr.ownsRow (br + 1) 4 1 (.slice au l.length capu) l.length (todoL l.length (max j todo)) ∧ Fr (fun b => (Value.slice au l.length capu).ownBlock = some b) W wr) (fun i _ => l.length - (intOf i).toNat)
  case atStart => exact ⟨0, Nat.zero_le _, rfl, by rw [Nat.zero_max]; exact HOW.out, Fr.refl _ _⟩
  case round =>
    obtain ⟨j, hj, rfl, hO, hf⟩ := hrel
    have t1 := hf.blk r1' (fun q => by have := (HLT.out br q).1; omega)
    have c1 := t1.cell 1
    simp at c1
    by_cases hlt : j < l.length
    · obtain ⟨g, cap', e, hg1, hg2, _, et, ef⟩ := owns_cell hO hlt
      cases e
      have hset := owns_put hO j hlt (.bool true)
      rw [todoL_put hlt] at hset
      have HS := Lib.hid hset
      have b1 : (0 : Int) ≤ (j : Int) := by omega
      have b2 : (j : Int) < (l.length : Int) := by omega
      have x0 := ef j
      have hf' := Lib.hid (hf.set ⟨g, j, none⟩ (.bool true) (fun _ => rfl))
      clear hset hO ef hf t1
      go_wp2
      go_roundw
      case rel => exact ⟨j + 1, by omega, by go_num, HS.out, hf'.out⟩
      case measure => simp [intOf]; omega
    · obtain rfl : j = l.length := by omega
      have t3 := hf.blk r3 (fun q => by have := (HLT.out (w.heap.size + 1) q).2; omega)
      rw [show max l.length todo = l.length by omega] at hO
      have HO2 := Lib.hid hO
      have hf2 := Lib.hid hf
      clear hO hf HOW
      have q0 := t3.cell 0
      have q1 := t3.cell 1
      have q2 := t3.cell 2
      have q3 := t3.cell 3
      have q4 := t3.cell 4
      have q5 := t3.cell 5
      have y0 := t3.free 0
      have y1 := t3.free 1
      have y2 := t3.free 2
      have y3 := t3.free 3
      have y4 := t3.free 4
      have y5 := t3.free 5
      simp at q0 q1 q2 q3 q4 q5
      have hs3 := t3.lt
      clear t3 r3 r2
      go_wp2
      refine bodyPost_ret (v := (toldV ⟨noF, false, false, 0⟩ (.slice none 0 0))) (by simp [toldV, noF, results, Try.results23, go_sem, q0, q1, q2, q3, q4, q5, hs3]) rfl ⟨rfl, ?_, ?_⟩
      · refine signs_turned (t := w.heap.size + 1) HR1.out fW hf2.out HO2.out HF.out HN.out HLT.out (by (repeat (first | (with_reducible exact Fr.refl _ _) | (with_reducible assumption) | (with_reducible refine Fr.drew ?_) | (with_reducible refine Fr.alloc ?_ _) | (with_reducible refine Fr.set ?_ _ _ (fun _ => by simp [Value.ownBlock]))))) (by omega) (Nat.le_refl _) hx1 hx3 hx4 hx5
      · refine Turn.of_blk HR1.out (v' := .slice av l.length capv) (u' := .slice au l.length capu) (r' := .int .i64 room) ?_ ?_ (fun b e => .inl e)
        · (unfold Blk; simp (disch := first | omega | (simp; done) | (simp; omega)) only [hp_drew, hp_drewN, hp_alloc, hp_other, hp_same, hp_new, upd_cells, Option.map_some, (t1).eq])
        · refine (Fr.trans (S := fun b => b = br ∨ (Value.slice au l.length capu).ownBlock = some b) (fW.of_nil.comp (hf2.out.mono (fun b _ q => .inr q))) (S' := fun b => b = w.heap.size + 1) (by (repeat (first | (with_reducible exact Fr.refl _ _) | (with_reducible assumption) | (with_reducible refine Fr.drew ?_) | (with_reducible refine Fr.alloc ?_ _) | (with_reducible refine Fr.set ?_ _ _ (fun _ => by simp [Value.ownBlock]))))) (fun b hb q => by omega))
set_option maxRecDepth 100000 in
set_option maxHeartbeats 2000000 in
theorem rdo_scan_none (kd : Int) (k0 : kd ≠ 0) (k1 : kd ≠ 1) (k2 : kd ≠ 2) (k3 : kd ≠ 3) (h : RefAt X w br l room 0) :
    Calls Try.prog 23 #[.pointer (some ⟨br, 0, none⟩), .agg #[.int .i64 kd, .int .i64 x.kind, .int .i64 x.node, u]] w fun e w' => e = .returned (toldV ⟨noF, false, false, 0⟩ (.slice none 0 0)) ∧ Fr Nil w w' := by
  have t0 : (kd == 0) = false := by simpa using k0
  have t1 : (kd == 1) = false := by simpa using k1
  have t2 : (kd == 2) = false := by simpa using k2
  have t3 : (kd == 3) = false := by simpa using k3
  have hbr := h.lt
  have hll : l.length ≤ 4096 := by have := usedOf_len l; have := h.hused; have := h.hroom; omega
  obtain ⟨⟨v', u', r1, hF, hO, hN⟩, hx1, hx2, hx3, hx4, hx5⟩ := h
  obtain ⟨av, capv, rfl⟩ := hF.form
  obtain ⟨au, capu, rfl⟩ := owns_shape hO
  have HF := Lib.hid hF
  have HO := Lib.hid hO
  have HR1 := Lib.hid r1
  have HLT := Lib.hid hO.lt
  have HN := Lib.hid hN
  have c0 := r1.cell 0
  simp at c0
  clear hF hN hO
  have D := doAt w (kd) x u
  go_enter Try.func23, Try.ntmps23
  go_wp2_with fail
  generalize ((w.alloc (.cells #[.int .i64 kd, .int .i64 x.kind, .int .i64 x.node, u] 34)).alloc (.cells #[.int .i64 0, .int .i64 0, .slice none 0 0, .bool false, .bool false, .int .i64 0] 44)) = W at D ⊢
  obtain ⟨fW, r2, r3⟩ := D
  have r1' := fW.blk r1 (by simp [Nil])
  clear c0 r1
  have HOW := Lib.hid (owns_blk (w1 := W) HO.out (fun g e => fW.block g (HLT.out g e).2 (by simp [Nil])))
  have c1 := r1'.cell 1
  have q0 := r3.cell 0
  have q1 := r3.cell 1
  have q2 := r3.cell 2
  have q3 := r3.cell 3
  have q4 := r3.cell 4
  have q5 := r3.cell 5
  have y0 := r3.free 0
  have y1 := r3.free 1
  have y2 := r3.free 2
  have y3 := r3.free 3
  have y4 := r3.free 4
  have y5 := r3.free 5
  simp at c1 q0 q1 q2 q3 q4 q5
  have hs3 := r3.lt
  clear t0 t1 t2 t3 k0 k1 k2 k3
  go_loop [8] (fun i => ∃ z : Int, -1 ≤ z ∧ z < (l.length : Int) ∧ i = .int .i64 z) (fun i => (intOf i + 1).toNat)
  case atStart => exact ⟨_, by omega, by omega, rfl⟩
  case round =>
    obtain ⟨z, hz1, hz2, rfl⟩ := hrel
    by_cases hlt : 0 ≤ z
    · obtain ⟨j, rfl⟩ := Int.eq_ofNat_of_zero_le hlt
      obtain ⟨g, cap', e, hg1, hg2, _, et, ef⟩ := owns_cell HOW.out (k := j) (by omega)
      cases e
      rw [show decide (j < 0) = false by simp] at et
      have x0 := ef j
      clear ef
      go_wp2
      go_round
      case rel => exact ⟨(j : Int) - 1, by omega, by omega, rfl⟩
      case measure => simp [intOf]
    · obtain rfl : z = -1 := by omega
      go_wp2
      refine bodyPost_ret (v := (toldV ⟨noF, false, false, 0⟩ (.slice none 0 0))) (by simp [toldV, noF, results, Try.results23, go_sem, q0, q1, q2, q3, q4, q5, hs3]) rfl ⟨rfl, ?_⟩
      (repeat (first | (with_reducible exact Fr.refl _ _) | (with_reducible assumption) | (with_reducible exact Fr.of_nil (by assumption)) | (with_reducible refine Fr.drew ?_) | (with_reducible refine Fr.drewN ?_ _) | (with_reducible refine Fr.alloc ?_ _) | (with_reducible refine Fr.set ?_ _ _ (by first | (intros; omega) | (simp; done) | (simp; omega))) | (with_reducible refine Fr.via ?_ (by assumption)) | (with_reducible refine Fr.comp ?_ (by assumption))))
set_option maxRecDepth 100000 in
set_option maxHeartbeats 2000000 in
theorem rdo_scan_some (kd : Int) (k0 : kd ≠ 0) (k1 : kd ≠ 1) (k2 : kd ≠ 2) (k3 : kd ≠ 3) (k : Nat) (f : FrameV) (hk : l[k]? = some f) (h : RefAt X w br l room (k + 1)) :
    Calls Try.prog 23 #[.pointer (some ⟨br, 0, none⟩), .agg #[.int .i64 kd, .int .i64 x.kind, .int .i64 x.node, u]] w fun e w' => ∃ vf, e = .returned (toldV ⟨f, false, true, 0⟩ vf) ∧ IntsAt X w' vf f.words ∧ RefAt X w' br l room k ∧ Turn br w w' := by
  have t0 : (kd == 0) = false := by simpa using k0
  have t1 : (kd == 1) = false := by simpa using k1
  have t2 : (kd == 2) = false := by simpa using k2
  have t3 : (kd == 3) = false := by simpa using k3
  have hbr := h.lt
  have hll : l.length ≤ 4096 := by have := usedOf_len l; have := h.hused; have := h.hroom; omega
  obtain ⟨⟨v', u', r1, hF, hO, hN⟩, hx1, hx2, hx3, hx4, hx5⟩ := h
  obtain ⟨av, capv, rfl⟩ := hF.form
  obtain ⟨au, capu, rfl⟩ := owns_shape hO
  have HF := Lib.hid hF
  have HO := Lib.hid hO
  have HR1 := Lib.hid r1
  have HLT := Lib.hid hO.lt
  have HN := Lib.hid hN
  have c0 := r1.cell 0
  simp at c0
  clear hF hN hO
  obtain ⟨g, cap, uf, e, hkl, hcap, e0, e1, e2, hu⟩ := HF.out.at hk
  cases e
  obtain ⟨au1, cu, rfl, hcu⟩ := hu
  have HU := Lib.hid (show IntsAt (fun b => X b ∨ TodoX br (Value.slice au l.length capu) b) w (.slice au1 f.words.length cu) f.words from ⟨au1, cu, rfl, hcu⟩)
  have hg : g < w.heap.size := World.block_lt_of_cell? _ _ e0
  have hgx : (Value.slice au l.length capu).ownBlock ≠ some g := by
    rcases HF.out with ⟨q, _⟩ | ⟨g', _, _, q, _, _, q4, _⟩
    · cases q
    · cases q
      exact fun e => q4 (.inr (.inr e))
  clear hcu hk
  have D := doAt w (kd) x u
  go_enter Try.func23, Try.ntmps23
  go_wp2_with fail
  generalize ((w.alloc (.cells #[.int .i64 kd, .int .i64 x.kind, .int .i64 x.node, u] 34)).alloc (.cells #[.int .i64 0, .int .i64 0, .slice none 0 0, .bool false, .bool false, .int .i64 0] 44)) = W at D ⊢
  obtain ⟨fW, r2, r3⟩ := D
  have r1' := fW.blk r1 (by simp [Nil])
  have e0' := fW.cell e0 (by simp [Nil])
  have e1' := fW.cell e1 (by simp [Nil])
  have e2' := fW.cell e2 (by simp [Nil])
  clear c0 r1 e0 e1 e2
  have HOW := Lib.hid (owns_blk (w1 := W) HO.out (fun g e => fW.block g (HLT.out g e).2 (by simp [Nil])))
  have c0 := r1'.cell 0
  have c1 := r1'.cell 1
  have q0 := r3.cell 0
  have q1 := r3.cell 1
  have q2 := r3.cell 2
  have q3 := r3.cell 3
  have q4 := r3.cell 4
  have q5 := r3.cell 5
  have y0 := r3.free 0
  have y1 := r3.free 1
  have y2 := r3.free 2
  have y3 := r3.free 3
  have y4 := r3.free 4
  have y5 := r3.free 5
  simp at c0 c1 q0 q1 q2 q3 q4 q5
  have hs3 := r3.lt
  have hs1 := r1'.lt
  have hsg := fW.lt hg
  clear t0 t1 t2 t3 k0 k1 k2 k3
  go_loop [8] (fun i => ∃ z : Int, (k : Int) ≤ z ∧ z < (l.length : Int) ∧ i = .int .i64 z) (fun i => (intOf i + 1).toNat)
  case atStart => exact ⟨_, by omega, by omega, rfl⟩
  case round =>
    obtain ⟨z, hz1, hz2, rfl⟩ := hrel
    obtain ⟨j, rfl⟩ := Int.eq_ofNat_of_zero_le (by omega : 0 ≤ z)
    have hb0 : (0 : Int) ≤ (j : Int) := by omega
    by_cases hlt : k < j
    · obtain ⟨g', cap', e, hg1, hg2, _, et, ef⟩ := owns_cell HOW.out (k := j) (by omega)
      cases e
      rw [show decide (j < k + 1) = false by simp; omega] at et
      have x0 := ef j
      clear ef
      go_wp2
      go_round
      case rel => exact ⟨(j : Int) - 1, by omega, by omega, rfl⟩
      case measure => simp [intOf]
    · obtain rfl : j = k := by omega
      obtain ⟨g', cap', e, hg1, hg2, _, et, ef⟩ := owns_cell HOW.out (k := j) (by omega)
      cases e
      rw [show decide (j < j + 1) = true by simp] at et
      have x0 := ef j
      have hset := owns_put HOW.out j hkl (.bool false)
      rw [todoL_drop hkl] at hset
      have HS := Lib.hid hset
      have hgl := (HLT.out g' rfl)
      have hn0 : g ≠ g' := fun q => hgx (by rw [q]; rfl)
      have hn1 : br ≠ g' := by omega
      have hn2 : w.heap.size + 1 ≠ g' := by omega
      clear ef hset HOW
      go_wp2
      refine bodyPost_ret (v := (toldV ⟨f, false, true, 0⟩ (.slice au1 f.words.length cu))) (by simp [toldV, noF, results, Try.results23, go_sem, q0, q1, q2, q3, q4, q5, hs3]) rfl ⟨_, rfl, ?_, ?_, ?_⟩
      · exact ints_turned (t := w.heap.size + 1) HU.out fW (by (repeat (first | (with_reducible exact Fr.refl _ _) | (with_reducible assumption) | (with_reducible refine Fr.drew ?_) | (with_reducible refine Fr.alloc ?_ _) | (with_reducible refine Fr.set ?_ _ _ (fun _ => by simp [Value.ownBlock]))))) (by omega)
      · refine signs_turned (t := w.heap.size + 1) (wr := W.setCell ⟨g', j, none⟩ (.bool false)) HR1.out fW ((Fr.refl _ _).set _ _ (fun _ => rfl)) HS.out HF.out HN.out HLT.out (by (repeat (first | (with_reducible exact Fr.refl _ _) | (with_reducible assumption) | (with_reducible refine Fr.drew ?_) | (with_reducible refine Fr.alloc ?_ _) | (with_reducible refine Fr.set ?_ _ _ (fun _ => by simp [Value.ownBlock]))))) (by omega) (by omega) hx1 hx3 hx4 hx5
      · refine Turn.of_blk HR1.out (v' := .slice (some ⟨g, 0, none⟩) l.length capv) (u' := .slice (some ⟨g', 0, none⟩) l.length capu) (r' := .int .i64 room) ?_ ?_ (fun b e => .inl e)
        · (unfold Blk; simp (disch := first | omega | (simp; done) | (simp; omega)) only [hp_drew, hp_drewN, hp_alloc, hp_other, hp_same, hp_new, upd_cells, Option.map_some, (r1').eq])
        · exact Fr.trans fW.of_nil (S' := fun b => (Value.slice (some ⟨g', 0, none⟩) l.length capu).ownBlock = some b ∨ b = w.heap.size + 1) (by (repeat (first | (with_reducible exact Fr.refl _ _) | (with_reducible assumption) | (with_reducible refine Fr.drew ?_) | (with_reducible refine Fr.alloc ?_ _) | (with_reducible refine Fr.set ?_ _ _ (fun _ => by simp [Value.ownBlock]))))) (fun b hb q => q.elim .inr (fun q => by omega))
end
end Go.Proofs.Ytncncoakibilcaa
