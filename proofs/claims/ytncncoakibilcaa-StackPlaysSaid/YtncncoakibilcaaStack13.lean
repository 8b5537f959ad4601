/-
  Contracts of the document's stack (treadwheelref15): Do, the calls that turn it.
-/
import Derived.Test.YtncncoakibilcaaStack12
namespace Go.Proofs.Ytncncoakibilcaa
set_option linter.unusedSimpArgs false
set_option linter.unusedVariables false
open Go.RowKit

theorem owns_put {w : World} {base n g cap : Nat} {t : TypeId} {xs : List Value} (h : w.ownsRow base t 1 (.slice (some ⟨g, 0, none⟩) n cap) n xs) (k : Nat) (hk : k < n) (v : Value) :
    (w.setCell ⟨g, k, none⟩ v).ownsRow base t 1 (.slice (some ⟨g, 0, none⟩) n cap) n (xs.set k v) := by
  obtain ⟨e1, e2⟩ := h
  rcases e2 with ⟨e2, _⟩ | ⟨g', cap', cur, e, q1, q2, q3, q4, q5, q6⟩
  · cases e2
  · cases e
    refine ⟨by simpa using e1, .inr ⟨g, cap, cur.setIfInBounds k v, rfl, q1, ?_, q3, q4, by simpa using q5, ?_⟩⟩
    · simp [World.setCell, Array.getElem?_modify, q2]
    · rw [← q6, Nat.mul_one, Array.toList_setIfInBounds, List.take_set]
theorem todoL_put {n j td : Nat} (hj : j < n) : (todoL n (max j td)).set j (.bool true) = todoL n (max (j + 1) td) := by
  apply List.ext_getElem?
  intro k
  rcases Nat.lt_or_ge k n with h | h
  · rw [List.getElem?_set, todoL_at h, todoL_at h]
    by_cases e : j = k
    · subst e
      simp [hj]
      omega
    · simp only [e, if_false, Option.some.injEq, Value.bool.injEq, decide_eq_decide]
      omega
  · rw [List.getElem?_eq_none (by simp; omega), List.getElem?_eq_none (by simp; omega)]
theorem todoL_drop {n k : Nat} (hk : k < n) : (todoL n (k + 1)).set k (.bool false) = todoL n k := by
  apply List.ext_getElem?
  intro j
  rcases Nat.lt_or_ge j n with h | h
  · rw [List.getElem?_set, todoL_at h, todoL_at h]
    by_cases e : k = j
    · subst e
      simp [hk]
    · simp only [e, if_false, Option.some.injEq, Value.bool.injEq, decide_eq_decide]
      omega
  · rw [List.getElem?_eq_none (by simp; omega), List.getElem?_eq_none (by simp; omega)]
theorem owns_blk {w w1 : World} {base n size : Nat} {t : TypeId} {u : Value} {xs : List Value} (h : w.ownsRow base t size u n xs) (hb : ∀ g, u.ownBlock = some g → w1.heap[g]? = w.heap[g]?) : w1.ownsRow base t size u n xs := by
  obtain ⟨e1, e2⟩ := h
  refine ⟨e1, ?_⟩
  rcases e2 with e2 | ⟨g, cap, cur, rfl, q1, q2, q3, q4, q5, q6⟩
  · exact .inl e2
  · exact .inr ⟨g, cap, cur, rfl, q1, (hb g rfl).trans q2, q3, q4, q5, q6⟩

section
variable (X : Nat → Prop) (br : Nat) (l : List FrameV) (room todo : Nat) (w : World) (x : FrameV) (u : Value)
set_option maxRecDepth 100000 in
set_option maxHeartbeats 2000000 in
theorem rdo_pop_some (k : Nat) (f : FrameV) (hk : l[k]? = some f) (hkl : l.length = k + 1) (h : RefAt X w br l room todo) :
    Calls Try.prog 23 #[.pointer (some ⟨br, 0, none⟩), .agg #[.int .i64 1, .int .i64 x.kind, .int .i64 x.node, u]] w fun e w' => ∃ vf, e = .returned (toldV ⟨f, decide (k < todo), true, 0⟩ vf) ∧ IntsAt X w' vf f.words ∧ RefAt X w' br (l.take k) room (min todo k) ∧ Turn br w w' := by
  have hbr := h.lt
  have hll : l.length ≤ 4096 := by have := usedOf_len l; have := h.hused; have := h.hroom; omega
  obtain ⟨⟨v', u', r1, hF, hO, hN⟩, hx1, hx2, hx3, hx4, hx5⟩ := h
  obtain ⟨g, cap, uf, rfl, _, hcap, e0, e1, e2, hu⟩ := hF.at hk
  obtain ⟨gt, capt, rfl, hgt1, hgt2, hcapt, et, _⟩ := owns_cell hO (k := k) (by omega)
  have hg : g < w.heap.size := World.block_lt_of_cell? _ _ e0
  have hne : ((k : Int) + 1 == 0) = false := by simp; omega
  have b1 : (0 : Int) ≤ (k : Int) := by omega
  have b2 : (k : Int) ≤ 4096 := by omega
  have b3 : (k : Int) < (k : Int) + 1 := by omega
  have b4 : (k : Int) ≤ (cap : Int) := by omega
  have b5 : (k : Int) ≤ (capt : Int) := by omega
  have HF := Lib.hid (hF.take k (by omega))
  have HO : Hid _ := Lib.hid (show w.ownsRow (br + 1) 4 1 (.slice (some ⟨gt, 0, none⟩) k capt) k (todoL k (min todo k)) from by
    rw [hkl] at hO
    refine ownsRow_pop (last := [.bool (decide (k < todo))]) (by simp) ?_
    have e := List.take_append_drop k (todoL (k + 1) todo)
    rw [todoL_take] at e
    have e2 : (todoL (k + 1) todo).drop k = [.bool (decide (k < todo))] := by
      apply List.ext_getElem?
      intro j
      rw [List.getElem?_drop]
      cases j with
      | zero => exact (todoL_at (by omega))
      | succ j => rw [List.getElem?_eq_none (by simp)]; rfl
    rw [e2] at e
    rw [e]
    exact hO)
  rw [hkl] at r1
  have HR1 := Lib.hid r1
  have hnx : gt ≠ br := by omega
  have hng : g ≠ br := by
    rcases hF with ⟨q, _⟩ | ⟨g', _, _, q, _, _, q4, _⟩
    · cases q
    · cases q
      exact fun e => q4 (.inr (.inl e))
  obtain ⟨au, cu, rfl, hcu⟩ := hu
  have HU := Lib.hid (show IntsAt (fun b => X b ∨ b = br) w (.slice au f.words.length cu) f.words from (IntsAt.mono ⟨au, cu, rfl, hcu⟩ (fun b _ q => q.elim .inl (fun q => .inr (.inl q)))))
  have HKL := Lib.hid hkl
  have HUS := Lib.hid (usedOf_mono l k)
  have HN := Lib.hid hN
  clear hF hO hkl hk hcu hll hN
  have c0 := r1.cell 0
  simp at c0
  have D := doAt w (1) x u
  go_enter Try.func23, Try.ntmps23
  go_wp2_with fail
  generalize ((w.alloc (.cells #[.int .i64 1, .int .i64 x.kind, .int .i64 x.node, u] 34)).alloc (.cells #[.int .i64 0, .int .i64 0, .slice none 0 0, .bool false, .bool false, .int .i64 0] 44)) = W at D ⊢
  obtain ⟨fW, r2, r3⟩ := D
  clear c0
  have r1' := fW.blk r1 (by simp [Nil])
  have e0' := fW.cell e0 (by simp [Nil])
  have e1' := fW.cell e1 (by simp [Nil])
  have e2' := fW.cell e2 (by simp [Nil])
  have et' := fW.cell et (by simp [Nil])
  clear e0 e1 e2 et r1
  have c0 := r1'.cell 0
  have c1 := r1'.cell 1
  have c2 := r1'.cell 2
  have z0 := r1'.free 0
  have z1 := r1'.free 1
  have q0 := r3.cell 0
  have q1 := r3.cell 1
  have q2 := r3.cell 2
  have q3 := r3.cell 3
  have q4 := r3.cell 4
  have q5 := r3.cell 5
  have y0 := r3.free 0
  have y1 := r3.free 1
  have y2 := r3.free 2
  have y3 := r3.free 3
  have y4 := r3.free 4
  have y5 := r3.free 5
  simp at c0 c1 c2 q0 q1 q2 q3 q4 q5
  have hs3 := r3.lt
  have hs1 := r1'.lt
  have hsg := fW.lt hg
  have hsgt := fW.lt hgt2
  have hn1 : br ≠ w.heap.size + 1 := by omega
  have hn2 : w.heap.size + 1 ≠ br := by omega
  have hsW := fW.size
  go_region
  all_goals
    go_wp2
    refine bodyPost_ret (v := (toldV ⟨f, decide (k < todo), true, 0⟩ (.slice au f.words.length cu))) (by simp [toldV, noF, results, Try.results23, go_sem, q0, q1, q2, q3, q4, q5, hs3]) rfl ⟨_, rfl, ?_, ?_, ?_⟩
    · exact (HU.out.fr (S := fun b => b = br) (by (repeat (first | (with_reducible exact Fr.refl _ _) | (with_reducible assumption) | (with_reducible exact Fr.of_nil (by assumption)) | (with_reducible refine Fr.drew ?_) | (with_reducible refine Fr.drewN ?_ _) | (with_reducible refine Fr.alloc ?_ _) | (with_reducible refine Fr.set ?_ _ _ (by first | (intros; omega) | (simp; done) | (simp; omega))) | (with_reducible refine Fr.via ?_ (by assumption)) | (with_reducible refine Fr.comp ?_ (by assumption))))) (fun b _ q => .inr q)).mono (fun b _ q => .inl q)
    · have e1 : (l.take k).length = k := by rw [List.length_take]; have := HKL.out; omega
      refine ⟨⟨.slice (some ⟨g, 0, none⟩) k cap, .slice (some ⟨gt, 0, none⟩) k capt, ?_, ?_, ?_, fun b e => HN.out b e⟩, hx1, ?_, ?_, hx4, fun y hy => hx5 y (List.mem_of_mem_take hy)⟩
      · (unfold Blk; simp (disch := first | omega | (simp; done) | (simp; omega)) only [hp_drew, hp_drewN, hp_alloc, hp_other, hp_same, hp_new, upd_cells, Option.map_some, (r1').eq])
        simp
      · exact HF.out.fr (S := fun b => b = br) (by (repeat (first | (with_reducible exact Fr.refl _ _) | (with_reducible assumption) | (with_reducible exact Fr.of_nil (by assumption)) | (with_reducible refine Fr.drew ?_) | (with_reducible refine Fr.drewN ?_ _) | (with_reducible refine Fr.alloc ?_ _) | (with_reducible refine Fr.set ?_ _ _ (by first | (intros; omega) | (simp; done) | (simp; omega))) | (with_reducible refine Fr.via ?_ (by assumption)) | (with_reducible refine Fr.comp ?_ (by assumption))))) (fun b _ q => .inr (.inl q))
      · rw [e1]
        refine owns_blk HO.out (fun g' e => ?_)
        cases e
        exact (Fr.block (S := fun b => b = br) (by (repeat (first | (with_reducible exact Fr.refl _ _) | (with_reducible assumption) | (with_reducible exact Fr.of_nil (by assumption)) | (with_reducible refine Fr.drew ?_) | (with_reducible refine Fr.drewN ?_ _) | (with_reducible refine Fr.alloc ?_ _) | (with_reducible refine Fr.set ?_ _ _ (by first | (intros; omega) | (simp; done) | (simp; omega))) | (with_reducible refine Fr.via ?_ (by assumption)) | (with_reducible refine Fr.comp ?_ (by assumption))))) gt hgt2 hnx)
      · have := HKL.out
        exact Nat.le_trans (Nat.min_le_right _ _) (by rw [List.length_take]; omega)
      · exact Nat.le_trans HUS.out hx3
    · refine Turn.of_blk HR1.out (v' := .slice (some ⟨g, 0, none⟩) k cap) (u' := .slice (some ⟨gt, 0, none⟩) k capt) (r' := .int .i64 room) ?_ (Fr.mono (S := fun b => b = br) (by (repeat (first | (with_reducible exact Fr.refl _ _) | (with_reducible assumption) | (with_reducible exact Fr.of_nil (by assumption)) | (with_reducible refine Fr.drew ?_) | (with_reducible refine Fr.drewN ?_ _) | (with_reducible refine Fr.alloc ?_ _) | (with_reducible refine Fr.set ?_ _ _ (by first | (intros; omega) | (simp; done) | (simp; omega))) | (with_reducible refine Fr.via ?_ (by assumption)) | (with_reducible refine Fr.comp ?_ (by assumption))))) (fun b _ q => .inl q)) (fun b e => .inl e)
      (unfold Blk; simp (disch := first | omega | (simp; done) | (simp; omega)) only [hp_drew, hp_drewN, hp_alloc, hp_other, hp_same, hp_new, upd_cells, Option.map_some, (r1').eq])
      simp
end
end Go.Proofs.Ytncncoakibilcaa
