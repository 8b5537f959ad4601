/-
  Contracts of the document's functions on cells.
-/
import Derived.Test.YtkdinblcbnlddaaCell3
namespace Go.Proofs.Ytkdinblcbnlddaa
set_option linter.unusedSimpArgs false
set_option linter.unusedVariables false
open Go.RowKit

set_option maxHeartbeats 1000000 in
theorem rpack_any (c : CellV) (w : World) :
    Calls Try.prog 12 #[.agg #[.int .i64 c.kind, .int .i64 c.size, .int .i64 c.aux, .int .i64 c.mark]] w fun e w' => e = .returned (.tuple #[.int .i64 c.pack, .int .i64 c.err]) ∧ Fr Nil w w' := by
  obtain ⟨kd, sz, ax, mk⟩ := c
  by_cases hk : kd < 0 ∨ 10 < kd
  · have he : CellV.err ⟨kd, sz, ax, mk⟩ = 6 := by simp [CellV.err, hk]
    have hp : CellV.pack ⟨kd, sz, ax, mk⟩ = 0 := by simp [CellV.pack, he]
    rw [he, hp]
    clear he hp
    rcases hk with hk | hk
    all_goals
      go_enter Try.func12, Try.ntmps12
      go_wp2
      go_ret2
      exact ⟨rfl, (Fr.refl _ _).alloc _⟩
  · have h0 : 0 ≤ kd := by omega
    have h1 : kd ≤ 10 := by omega
    by_cases hok : (fitB mk 2 && fitB sz 32 && fitB ax 16777216) = true
    · have he : CellV.err ⟨kd, sz, ax, mk⟩ = 0 := by unfold CellV.err; rw [if_neg hk, if_pos hok]
      have hp : CellV.pack ⟨kd, sz, ax, mk⟩ = kd + 16 * mk + 32 * sz + 1024 * ax := by simp [CellV.pack, he, CellV.word]
      rw [he, hp]
      simp only [Bool.and_eq_true] at hok
      obtain ⟨⟨hm, hs⟩, ha⟩ := hok
      obtain ⟨m0, m1⟩ := fitB_iff.1 hm
      obtain ⟨s0, s1⟩ := fitB_iff.1 hs
      obtain ⟨a0, a1⟩ := fitB_iff.1 ha
      clear he hp hm hs ha hk
      go_enter Try.func12, Try.ntmps12
      go_wp2
      go_ret2
      exact ⟨rfl, (Fr.refl _ _).alloc _⟩
    · have he : CellV.err ⟨kd, sz, ax, mk⟩ = 1 := by unfold CellV.err; rw [if_neg hk, if_neg hok]
      have hp : CellV.pack ⟨kd, sz, ax, mk⟩ = 0 := by simp [CellV.pack, he]
      rw [he, hp]
      clear he hp hk
      have hc : sz < 0 ∨ (0 ≤ sz ∧ 31 < sz) ∨ ((0 ≤ sz ∧ sz ≤ 31) ∧ (ax < 0 ∨ (0 ≤ ax ∧ 16777215 < ax) ∨ ((0 ≤ ax ∧ ax ≤ 16777215) ∧ (mk < 0 ∨ (0 ≤ mk ∧ 1 < mk))))) := by
        simp [fitB] at hok; omega
      clear hok
      rcases hc with hc | ⟨hc, hd⟩ | ⟨⟨g0, g1⟩, hc | ⟨hc, hd⟩ | ⟨⟨g2, g3⟩, hc | ⟨hc, hd⟩⟩⟩
      all_goals
        go_enter Try.func12, Try.ntmps12
        go_wp2
        go_ret2
        exact ⟨rfl, (Fr.refl _ _).alloc _⟩

theorem runpack_any (x : Int) (w : World) (hx : x ≤ 9223372036854775807) :
    Calls Try.prog 14 #[.int .i64 x] w fun e w' => e = .returned (.tuple #[(unpC x).val, .int .i64 (unpE x)]) ∧ Fr Nil w w' := by
  by_cases hok : unpOk x = true
  · have h : (0 ≤ x ∧ x < 17179869184) ∧ x % 16 ≤ 10 := by simpa [unpOk] using hok
    obtain ⟨⟨h0, h1⟩, h2⟩ := h
    have e1 : (unpC x).val = .agg #[.int .i64 (x % 16), .int .i64 (x / 32 % 32), .int .i64 (x / 1024), .int .i64 (x / 16 % 2)] := by
      have a : x / 16 / 2 % 32 = x / 32 % 32 := by omega
      have b : x / 16 / 2 / 32 % 16777216 = x / 1024 := by omega
      simp only [unpC, hok, if_true, unp, CellV.val, a, b]
    have e2 : unpE x = 0 := by simp [unpE, hok]
    rw [e1, e2]
    clear e1 e2 hok
    have b1 : x / 1024 ≤ 16777215 := by omega
    have b2 : 0 ≤ x / 16 := by omega
    have b3 : 0 ≤ x / 32 := by omega
    have d1 : decide (16777215 < x / 1024) = false := by simp; omega
    have d2 : decide (10 < x % 16) = false := by simp; omega
    go_enter Try.func14, Try.ntmps14
    go_wp2
    refine bodyPost_ret (v := .tuple #[.agg #[.int .i64 (x % 16), .int .i64 (x / 32 % 32), .int .i64 (x / 1024), .int .i64 (x / 16 % 2)], .int .i64 0]) (by simp [results, Try.results14, go_sem]) rfl ⟨rfl, ?_⟩
    (repeat (first | (with_reducible exact Fr.refl _ _) | (with_reducible assumption) | (with_reducible refine Fr.drew ?_) | (with_reducible refine Fr.drewN ?_ _) | (with_reducible refine Fr.alloc ?_ _) | (with_reducible refine Fr.set ?_ _ _ (by first | (intros; omega) | (simp; done) | (simp; omega)))))
  · have e1 : (unpC x).val = .agg #[.int .i64 0, .int .i64 0, .int .i64 0, .int .i64 0] := by simp [unpC, hok, CellV.val]
    have e2 : unpE x = 3 := by simp [unpE, hok]
    rw [e1, e2]
    have hc : x < 0 ∨ (0 ≤ x ∧ 16777215 < x / 1024) ∨ (0 ≤ x ∧ x / 1024 ≤ 16777215 ∧ 10 < x % 16) := by
      simp [unpOk] at hok; omega
    clear e1 e2 hok
    rcases hc with hc | ⟨hc, hd⟩ | ⟨hc, hd, he⟩
    all_goals
      go_enter Try.func14, Try.ntmps14
      go_wp2
      refine bodyPost_ret (v := .tuple #[.agg #[.int .i64 0, .int .i64 0, .int .i64 0, .int .i64 0], .int .i64 3]) (by simp [results, Try.results14, go_sem]) rfl ⟨rfl, ?_⟩
      (repeat (first | (with_reducible exact Fr.refl _ _) | (with_reducible assumption) | (with_reducible refine Fr.drew ?_) | (with_reducible refine Fr.drewN ?_ _) | (with_reducible refine Fr.alloc ?_ _) | (with_reducible refine Fr.set ?_ _ _ (by first | (intros; omega) | (simp; done) | (simp; omega)))))

/-- Is a word one of the links? -/
def linkB (c : CellV) (k : Int) : Bool := decide (lnkF c ≤ k) && decide (k < lnkT c)
theorem linkB_ok {c : CellV} {k : Int} (h : c.err = 0) : linkB c k = (decide (endF c.kind ≤ k) && decide (k < lnkT0 c)) := by
  have h1 := (lnk_of h).1
  have h2 := (lnk_of h).2
  unfold linkB
  rw [h1, h2, Bool.eq_iff_iff]
  have hf : 0 ≤ endF c.kind := by unfold endF; (repeat' split) <;> omega
  simp only [Bool.and_eq_true, decide_eq_true_eq]
  (repeat' split) <;> omega
theorem linkB_bad {c : CellV} {k : Int} (h : c.err ≠ 0) : linkB c k = false := by
  have h1 : lnkF c = 0 := by unfold lnkF; rw [if_neg (fun q => h q.1)]
  have h2 : lnkT c = 0 := by unfold lnkT; rw [if_neg (fun q => h q.1)]
  unfold linkB
  rw [h1, h2]
  simp
  try omega
set_option maxHeartbeats 2000000 in
theorem rlink_any (c : CellV) (k : Int) (w : World) :
    Calls Try.prog 10 #[.agg #[.int .i64 c.kind, .int .i64 c.size, .int .i64 c.aux, .int .i64 c.mark], .int .i64 k] w fun e w' => e = .returned (.bool (linkB c k)) ∧ Fr Nil w w' := by
  by_cases herr : c.err = 0
  · obtain ⟨kd, sz, ax, mk⟩ := c
    obtain ⟨h0, h1⟩ := err_kind herr
    obtain ⟨_, ⟨hs0, hs1⟩, _⟩ := err_parts herr
    simp only [] at h0 h1 hs0 hs1
    have hpk := rpack_any ⟨kd, sz, ax, mk⟩
    rw [herr] at hpk
    have HP := Lib.hid hpk
    have HL := Lib.hid (linkB_ok (k := k) herr)
    clear hpk herr
    by_cases hk : 0 ≤ k ∧ k < sz
    · obtain ⟨hk0, hk1⟩ := hk
      go_enter Try.func10, Try.ntmps10
      go_wp2_with fail
      refine (HP.out _).mono ?_
      rintro e w1 ⟨rfl, f1⟩
      have g1 := f1.blk (b := w.heap.size) (c := #[.int .i64 kd, .int .i64 sz, .int .i64 ax, .int .i64 mk]) (t := 28) (by (unfold Blk; simp (disch := first | omega | (simp; done) | (simp; omega)) only [hp_drew, hp_drewN, hp_alloc, hp_other, hp_same, hp_new, upd_cells, Option.map_some])) (by simp [Nil])
      have q0 := g1.cell 0
      have q1 := g1.cell 1
      simp at q0 q1
      have hfr : Fr Nil w w1 := Fr.trans (by (repeat (first | (with_reducible exact Fr.refl _ _) | (with_reducible assumption) | (with_reducible refine Fr.drew ?_) | (with_reducible refine Fr.drewN ?_ _) | (with_reducible refine Fr.alloc ?_ _) | (with_reducible refine Fr.set ?_ _ _ (by first | (intros; omega) | (simp; done) | (simp; omega)))))) f1 (fun _ _ q => q)
      clear f1 g1
      generalize CellV.pack ⟨kd, sz, ax, mk⟩ = P
      have hc : kd = 0 ∨ kd = 1 ∨ kd = 2 ∨ kd = 3 ∨ kd = 4 ∨ kd = 5 ∨ kd = 6 ∨ kd = 7 ∨ kd = 8 ∨ kd = 9 ∨ kd = 10 := by omega
      rcases hc with rfl | rfl | rfl | rfl | rfl | rfl | rfl | rfl | rfl | rfl | rfl
      all_goals
        go_wp2
        all_goals
          go_ret
          refine ⟨?_, hfr⟩
          rw [HL.out]
          refine ret1_bool ?_
          clear HL HP q0 q1
          rw [Bool.eq_iff_iff]
          simp [endF, lnkT0, endT]
          try ((repeat' split) <;> omega)
    · have hn : linkB ⟨kd, sz, ax, mk⟩ k = false := by
        rw [HL.out]
        have hf : 0 ≤ endF kd := by unfold endF; (repeat' split) <;> omega
        have ht : lnkT0 ⟨kd, sz, ax, mk⟩ ≤ sz := by unfold lnkT0; simp only []; split <;> omega
        simp only [Bool.and_eq_false_iff, decide_eq_false_iff_not]
        omega
      rw [hn]
      clear HL hn
      have hc : k < 0 ∨ (0 ≤ k ∧ sz ≤ k) := by omega
      clear hk
      rcases hc with hc | ⟨hc, hd⟩
      all_goals
        go_enter Try.func10, Try.ntmps10
        go_wp2_with fail
        refine (HP.out _).mono ?_
        rintro e w1 ⟨rfl, f1⟩
        have g1 := f1.blk (b := w.heap.size) (c := #[.int .i64 kd, .int .i64 sz, .int .i64 ax, .int .i64 mk]) (t := 28) (by (unfold Blk; simp (disch := first | omega | (simp; done) | (simp; omega)) only [hp_drew, hp_drewN, hp_alloc, hp_other, hp_same, hp_new, upd_cells, Option.map_some])) (by simp [Nil])
        have q1 := g1.cell 1
        simp at q1
        have hfr : Fr Nil w w1 := Fr.trans (by (repeat (first | (with_reducible exact Fr.refl _ _) | (with_reducible assumption) | (with_reducible refine Fr.drew ?_) | (with_reducible refine Fr.drewN ?_ _) | (with_reducible refine Fr.alloc ?_ _) | (with_reducible refine Fr.set ?_ _ _ (by first | (intros; omega) | (simp; done) | (simp; omega)))))) f1 (fun _ _ q => q)
        clear f1 g1
        generalize CellV.pack ⟨kd, sz, ax, mk⟩ = P
        go_wp2
        go_ret
        exact ⟨rfl, hfr⟩
  · rw [linkB_bad herr]
    have hb : (c.err != 0) = true := by simpa using herr
    go_enter Try.func10, Try.ntmps10
    go_wp2_with fail
    refine (rpack_any c _).mono ?_
    rintro e w1 ⟨rfl, f1⟩
    have hfr : Fr Nil w w1 := Fr.trans (by (repeat (first | (with_reducible exact Fr.refl _ _) | (with_reducible assumption) | (with_reducible refine Fr.drew ?_) | (with_reducible refine Fr.drewN ?_ _) | (with_reducible refine Fr.alloc ?_ _) | (with_reducible refine Fr.set ?_ _ _ (by first | (intros; omega) | (simp; done) | (simp; omega)))))) f1 (fun _ _ q => q)
    clear f1
    generalize c.err = E at *
    generalize c.pack = P at *
    go_wp2
    go_ret
    exact ⟨rfl, hfr⟩
end Go.Proofs.Ytkdinblcbnlddaa
