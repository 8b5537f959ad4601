/-
  Contracts of package cell: Pack, Unpack, Links.
-/
import Derived.Test.YtkdinblcbnlddaaRows
import Derived.Test.YtkdinblcbnlddaaKit
import Derived.Test.YtkdinblcbnlddaaBits
import Derived.Deep.QuietTactic
import Derived.BigQuiet
namespace Go.Proofs.Ytkdinblcbnlddaa
set_option linter.unusedSimpArgs false
set_option linter.unusedVariables false
open Go.RowKit

/-- Is a number at least 0 and below another one? -/
def fitB (n m : Int) : Bool := decide (0 ≤ n) && decide (n < m)
theorem fits4 (n : Int) (w : World) : Calls Try.prog 16 #[.int .i64 n, .int .i64 4] w fun e w' => e = .returned (.bool (fitB n 16)) ∧ w = w' := by
  by_cases h0 : 0 ≤ n
  · have hf : fitB n 16 = decide (n < 16) := by simp [fitB, h0]
    rw [hf]
    clear hf
    go_enter Try.func16, Try.ntmps16
    go_wp2
    go_ret
    exact ⟨rfl, rfl⟩
  · have hf : fitB n 16 = false := by simp [fitB, h0]
    rw [hf]
    clear hf
    go_enter Try.func16, Try.ntmps16
    go_wp2
    go_ret
    exact ⟨rfl, rfl⟩
theorem fits1 (n : Int) (w : World) : Calls Try.prog 16 #[.int .i64 n, .int .i64 1] w fun e w' => e = .returned (.bool (fitB n 2)) ∧ w = w' := by
  by_cases h0 : 0 ≤ n
  · have hf : fitB n 2 = decide (n < 2) := by simp [fitB, h0]
    rw [hf]
    clear hf
    go_enter Try.func16, Try.ntmps16
    go_wp2
    go_ret
    exact ⟨rfl, rfl⟩
  · have hf : fitB n 2 = false := by simp [fitB, h0]
    rw [hf]
    clear hf
    go_enter Try.func16, Try.ntmps16
    go_wp2
    go_ret
    exact ⟨rfl, rfl⟩
theorem fits5 (n : Int) (w : World) : Calls Try.prog 16 #[.int .i64 n, .int .i64 5] w fun e w' => e = .returned (.bool (fitB n 32)) ∧ w = w' := by
  by_cases h0 : 0 ≤ n
  · have hf : fitB n 32 = decide (n < 32) := by simp [fitB, h0]
    rw [hf]
    clear hf
    go_enter Try.func16, Try.ntmps16
    go_wp2
    go_ret
    exact ⟨rfl, rfl⟩
  · have hf : fitB n 32 = false := by simp [fitB, h0]
    rw [hf]
    clear hf
    go_enter Try.func16, Try.ntmps16
    go_wp2
    go_ret
    exact ⟨rfl, rfl⟩
theorem fits24 (n : Int) (w : World) : Calls Try.prog 16 #[.int .i64 n, .int .i64 24] w fun e w' => e = .returned (.bool (fitB n 16777216)) ∧ w = w' := by
  by_cases h0 : 0 ≤ n
  · have hf : fitB n 16777216 = decide (n < 16777216) := by simp [fitB, h0]
    rw [hf]
    clear hf
    go_enter Try.func16, Try.ntmps16
    go_wp2
    go_ret
    exact ⟨rfl, rfl⟩
  · have hf : fitB n 16777216 = false := by simp [fitB, h0]
    rw [hf]
    clear hf
    go_enter Try.func16, Try.ntmps16
    go_wp2
    go_ret
    exact ⟨rfl, rfl⟩
theorem bits_any (w : World) : Calls Try.prog 15 #[] w fun e w' => e = .returned (.agg #[.int .i64 4, .int .i64 1, .int .i64 5, .int .i64 24]) ∧ Fr Nil w w' := by
  go_enter Try.func15, Try.ntmps15
  go_wp2
  refine bodyPost_ret (v := .agg #[.int .i64 4, .int .i64 1, .int .i64 5, .int .i64 24]) (by simp [results, Try.results15, go_sem]) rfl ⟨rfl, ?_⟩
  (repeat (first | (with_reducible exact Fr.refl _ _) | (with_reducible assumption) | (with_reducible refine Fr.drew ?_) | (with_reducible refine Fr.drewN ?_ _) | (with_reducible refine Fr.alloc ?_ _) | (with_reducible refine Fr.set ?_ _ _ (by first | (intros; omega) | (simp; done) | (simp; omega)))))
/-- An object. -/
structure CellV where
  kind : Int
  size : Int
  aux : Int
  mark : Int
def CellV.val (c : CellV) : Value := .agg #[.int .i64 c.kind, .int .i64 c.size, .int .i64 c.aux, .int .i64 c.mark]
/-- Its word; the error. -/
def CellV.word (c : CellV) : Int := c.kind + 16 * c.mark + 32 * c.size + 1024 * c.aux
def CellV.err (c : CellV) : Int :=
  if c.kind < 0 ∨ 10 < c.kind then 6 else if fitB c.mark 2 && fitB c.size 32 && fitB c.aux 16777216 then 0 else 1
def CellV.pack (c : CellV) : Int := if c.err = 0 then c.word else 0

theorem pack_kind (c : CellV) (w : World) (h : c.kind < 0 ∨ 10 < c.kind) :
    Calls Try.prog 11 #[.agg #[.int .i64 c.kind, .int .i64 c.size, .int .i64 c.aux, .int .i64 c.mark]] w fun e w' => e = .returned (.tuple #[.int .i64 0, .int .i64 6]) ∧ Fr Nil w w' := by
  obtain ⟨kd, sz, ax, mk⟩ := c
  rcases h with h | h
  all_goals
    simp at h
    go_enter Try.func11, Try.ntmps11
    go_wp2
    go_ret2
    exact ⟨rfl, (Fr.refl _ _).alloc _⟩
theorem fitB_iff {n m : Int} : fitB n m = true ↔ 0 ≤ n ∧ n < m := by simp [fitB]
theorem word_bits (kd mk sz ax : Int) (h0 : 0 ≤ kd) (h1 : kd ≤ 10) (hm : fitB mk 2 = true) (hs : fitB sz 32 = true) (ha : fitB ax 16777216 = true) :
    bits BinOp.or IntKind.i64 (bits BinOp.or IntKind.i64 (bits BinOp.or IntKind.i64 (bits BinOp.or IntKind.i64 0 kd) (wrap64 (mk * 16))) (wrap64 (sz * 32))) (wrap64 (ax * 1024)) = CellV.word ⟨kd, sz, ax, mk⟩ := by
  obtain ⟨m0, m1⟩ := fitB_iff.1 hm
  obtain ⟨s0, s1⟩ := fitB_iff.1 hs
  obtain ⟨a0, a1⟩ := fitB_iff.1 ha
  obtain ⟨K, rfl⟩ := Int.eq_ofNat_of_zero_le h0
  obtain ⟨M, rfl⟩ := Int.eq_ofNat_of_zero_le m0
  obtain ⟨S, rfl⟩ := Int.eq_ofNat_of_zero_le s0
  obtain ⟨A, rfl⟩ := Int.eq_ofNat_of_zero_le a0
  have e0 : bits BinOp.or IntKind.i64 0 (K : Int) = (K : Int) := by
    have := or_i64 0 K (by decide) (by omega)
    simpa using this
  have e1 : wrap64 ((M : Int) * 16) = ((2 ^ 4 * M : Nat) : Int) := by rw [IntWalk.wrap64_in _ ⟨by omega, by omega⟩]; omega
  have e2 : wrap64 ((S : Int) * 32) = ((2 ^ 5 * S : Nat) : Int) := by rw [IntWalk.wrap64_in _ ⟨by omega, by omega⟩]; omega
  have e3 : wrap64 ((A : Int) * 1024) = ((2 ^ 10 * A : Nat) : Int) := by rw [IntWalk.wrap64_in _ ⟨by omega, by omega⟩]; omega
  rw [e0, e1, or_add K M 4 (by omega) (by omega) (by decide), e2, or_add (K + 2 ^ 4 * M) S 5 (by omega) (by omega) (by decide), e3, or_add (K + 2 ^ 4 * M + 2 ^ 5 * S) A 10 (by omega) (by omega) (by decide)]
  simp [CellV.word]
theorem pack_ok (c : CellV) (w : World) (h0 : 0 ≤ c.kind) (h1 : c.kind ≤ 10) (hm : fitB c.mark 2 = true) (hs : fitB c.size 32 = true) (ha : fitB c.aux 16777216 = true) :
    Calls Try.prog 11 #[.agg #[.int .i64 c.kind, .int .i64 c.size, .int .i64 c.aux, .int .i64 c.mark]] w fun e w' => e = .returned (.tuple #[.int .i64 c.word, .int .i64 0]) ∧ Fr Nil w w' := by
  obtain ⟨kd, sz, ax, mk⟩ := c
  simp at h0 h1 hm hs ha
  have hk : fitB kd 16 = true := by simp [fitB]; omega
  have i0 : ∀ w, (Instr.index 34 (.agg #[.int .i64 4, .int .i64 1, .int .i64 5, .int .i64 24]) (.int .i64 0)).run Try.prog w = .ok (.int .i64 4) w := fun _ => by kernel_rfl
  have i1 : ∀ w, (Instr.index 34 (.agg #[.int .i64 4, .int .i64 1, .int .i64 5, .int .i64 24]) (.int .i64 1)).run Try.prog w = .ok (.int .i64 1) w := fun _ => by kernel_rfl
  have i2 : ∀ w, (Instr.index 34 (.agg #[.int .i64 4, .int .i64 1, .int .i64 5, .int .i64 24]) (.int .i64 2)).run Try.prog w = .ok (.int .i64 5) w := fun _ => by kernel_rfl
  have i3 : ∀ w, (Instr.index 34 (.agg #[.int .i64 4, .int .i64 1, .int .i64 5, .int .i64 24]) (.int .i64 3)).run Try.prog w = .ok (.int .i64 24) w := fun _ => by kernel_rfl
  go_enter Try.func11, Try.ntmps11
  go_wp2_with fail
  refine (bits_any _).mono ?_
  rintro e w1 ⟨rfl, f1⟩
  have g1 := f1.blk (b := w.heap.size + 1) (c := #[.int .i64 kd, .int .i64 mk, .int .i64 sz, .int .i64 ax]) (t := 34) (by (unfold Blk; simp (disch := first | omega | (simp; done) | (simp; omega)) only [hp_drew, hp_drewN, hp_alloc, hp_other, hp_same, hp_new, upd_cells, Option.map_some])) (by simp [Nil])
  have hfr : Fr Nil w w1 := Fr.trans (by (repeat (first | (with_reducible exact Fr.refl _ _) | (with_reducible assumption) | (with_reducible refine Fr.drew ?_) | (with_reducible refine Fr.drewN ?_ _) | (with_reducible refine Fr.alloc ?_ _) | (with_reducible refine Fr.set ?_ _ _ (by first | (intros; omega) | (simp; done) | (simp; omega)))))) f1 (fun _ _ q => q)
  clear f1
  have hk0 := g1.cell 0
  have hk1 := g1.cell 1
  have hk2 := g1.cell 2
  have hk3 := g1.cell 3
  simp at hk0 hk1 hk2 hk3
  go_wp2_with fail
  refine wp_loop_rounds 5 ?_
  rw [rounds_succ]
  go_wp2_with (first | (go_at_call 16; refine (fits4 _ _).mono ?_; rintro e w2 ⟨rfl, rfl⟩))
  rw [rounds_succ]
  go_wp2_with (first | (go_at_call 16; refine (fits1 _ _).mono ?_; rintro e w2 ⟨rfl, rfl⟩))
  rw [rounds_succ]
  go_wp2_with (first | (go_at_call 16; refine (fits5 _ _).mono ?_; rintro e w2 ⟨rfl, rfl⟩))
  rw [rounds_succ]
  go_wp2_with (first | (go_at_call 16; refine (fits24 _ _).mono ?_; rintro e w2 ⟨rfl, rfl⟩))
  rw [rounds_succ]
  go_wp2_with fail
  go_ret2
  refine ⟨?_, hfr⟩
  show Ending.returned (.tuple #[.int .i64 (bits BinOp.or IntKind.i64 (bits BinOp.or IntKind.i64 (bits BinOp.or IntKind.i64 (bits BinOp.or IntKind.i64 0 kd) (wrap64 (mk * 16))) (wrap64 (sz * 32))) (wrap64 (ax * 1024))), .int .i64 0]) = _
  rw [word_bits kd mk sz ax h0 h1 hm hs ha]
theorem pack_bad (c : CellV) (w : World) (h0 : 0 ≤ c.kind) (h1 : c.kind ≤ 10) (hbad : fitB c.mark 2 = false ∨ (fitB c.mark 2 = true ∧ fitB c.size 32 = false) ∨ (fitB c.mark 2 = true ∧ fitB c.size 32 = true ∧ fitB c.aux 16777216 = false)) :
    Calls Try.prog 11 #[.agg #[.int .i64 c.kind, .int .i64 c.size, .int .i64 c.aux, .int .i64 c.mark]] w fun e w' => e = .returned (.tuple #[.int .i64 0, .int .i64 1]) ∧ Fr Nil w w' := by
  obtain ⟨kd, sz, ax, mk⟩ := c
  simp only [] at h0 h1 hbad
  have hk : fitB kd 16 = true := by simp [fitB]; omega
  have i0 : ∀ w, (Instr.index 34 (.agg #[.int .i64 4, .int .i64 1, .int .i64 5, .int .i64 24]) (.int .i64 0)).run Try.prog w = .ok (.int .i64 4) w := fun _ => by kernel_rfl
  have i1 : ∀ w, (Instr.index 34 (.agg #[.int .i64 4, .int .i64 1, .int .i64 5, .int .i64 24]) (.int .i64 1)).run Try.prog w = .ok (.int .i64 1) w := fun _ => by kernel_rfl
  have i2 : ∀ w, (Instr.index 34 (.agg #[.int .i64 4, .int .i64 1, .int .i64 5, .int .i64 24]) (.int .i64 2)).run Try.prog w = .ok (.int .i64 5) w := fun _ => by kernel_rfl
  have i3 : ∀ w, (Instr.index 34 (.agg #[.int .i64 4, .int .i64 1, .int .i64 5, .int .i64 24]) (.int .i64 3)).run Try.prog w = .ok (.int .i64 24) w := fun _ => by kernel_rfl
  rcases hbad with hm | ⟨hm, hs⟩ | ⟨hm, hs, ha⟩
  · go_enter Try.func11, Try.ntmps11
    go_wp2_with fail
    refine (bits_any _).mono ?_
    rintro e w1 ⟨rfl, f1⟩
    have g1 := f1.blk (b := w.heap.size + 1) (c := #[.int .i64 kd, .int .i64 mk, .int .i64 sz, .int .i64 ax]) (t := 34) (by (unfold Blk; simp (disch := first | omega | (simp; done) | (simp; omega)) only [hp_drew, hp_drewN, hp_alloc, hp_other, hp_same, hp_new, upd_cells, Option.map_some])) (by simp [Nil])
    have hfr : Fr Nil w w1 := Fr.trans (by (repeat (first | (with_reducible exact Fr.refl _ _) | (with_reducible assumption) | (with_reducible refine Fr.drew ?_) | (with_reducible refine Fr.drewN ?_ _) | (with_reducible refine Fr.alloc ?_ _) | (with_reducible refine Fr.set ?_ _ _ (by first | (intros; omega) | (simp; done) | (simp; omega)))))) f1 (fun _ _ q => q)
    clear f1
    have hk0 := g1.cell 0
    have hk1 := g1.cell 1
    have hk2 := g1.cell 2
    have hk3 := g1.cell 3
    simp at hk0 hk1 hk2 hk3
    go_wp2_with fail
    refine wp_loop_rounds 5 ?_
    rw [rounds_succ]
    go_wp2_with (first | (go_at_call 16; refine (fits4 _ _).mono ?_; rintro e w2 ⟨rfl, rfl⟩))
    rw [rounds_succ]
    go_wp2_with (first | (go_at_call 16; refine (fits1 _ _).mono ?_; rintro e w2 ⟨rfl, rfl⟩))
    go_ret2
    exact ⟨rfl, hfr⟩
  · go_enter Try.func11, Try.ntmps11
    go_wp2_with fail
    refine (bits_any _).mono ?_
    rintro e w1 ⟨rfl, f1⟩
    have g1 := f1.blk (b := w.heap.size + 1) (c := #[.int .i64 kd, .int .i64 mk, .int .i64 sz, .int .i64 ax]) (t := 34) (by (unfold Blk; simp (disch := first | omega | (simp; done) | (simp; omega)) only [hp_drew, hp_drewN, hp_alloc, hp_other, hp_same, hp_new, upd_cells, Option.map_some])) (by simp [Nil])
    have hfr : Fr Nil w w1 := Fr.trans (by (repeat (first | (with_reducible exact Fr.refl _ _) | (with_reducible assumption) | (with_reducible refine Fr.drew ?_) | (with_reducible refine Fr.drewN ?_ _) | (with_reducible refine Fr.alloc ?_ _) | (with_reducible refine Fr.set ?_ _ _ (by first | (intros; omega) | (simp; done) | (simp; omega)))))) f1 (fun _ _ q => q)
    clear f1
    have hk0 := g1.cell 0
    have hk1 := g1.cell 1
    have hk2 := g1.cell 2
    have hk3 := g1.cell 3
    simp at hk0 hk1 hk2 hk3
    go_wp2_with fail
    refine wp_loop_rounds 5 ?_
    rw [rounds_succ]
    go_wp2_with (first | (go_at_call 16; refine (fits4 _ _).mono ?_; rintro e w2 ⟨rfl, rfl⟩))
    rw [rounds_succ]
    go_wp2_with (first | (go_at_call 16; refine (fits1 _ _).mono ?_; rintro e w2 ⟨rfl, rfl⟩))
    rw [rounds_succ]
    go_wp2_with (first | (go_at_call 16; refine (fits5 _ _).mono ?_; rintro e w2 ⟨rfl, rfl⟩))
    go_ret2
    exact ⟨rfl, hfr⟩
  · go_enter Try.func11, Try.ntmps11
    go_wp2_with fail
    refine (bits_any _).mono ?_
    rintro e w1 ⟨rfl, f1⟩
    have g1 := f1.blk (b := w.heap.size + 1) (c := #[.int .i64 kd, .int .i64 mk, .int .i64 sz, .int .i64 ax]) (t := 34) (by (unfold Blk; simp (disch := first | omega | (simp; done) | (simp; omega)) only [hp_drew, hp_drewN, hp_alloc, hp_other, hp_same, hp_new, upd_cells, Option.map_some])) (by simp [Nil])
    have hfr : Fr Nil w w1 := Fr.trans (by (repeat (first | (with_reducible exact Fr.refl _ _) | (with_reducible assumption) | (with_reducible refine Fr.drew ?_) | (with_reducible refine Fr.drewN ?_ _) | (with_reducible refine Fr.alloc ?_ _) | (with_reducible refine Fr.set ?_ _ _ (by first | (intros; omega) | (simp; done) | (simp; omega)))))) f1 (fun _ _ q => q)
    clear f1
    have hk0 := g1.cell 0
    have hk1 := g1.cell 1
    have hk2 := g1.cell 2
    have hk3 := g1.cell 3
    simp at hk0 hk1 hk2 hk3
    go_wp2_with fail
    refine wp_loop_rounds 5 ?_
    rw [rounds_succ]
    go_wp2_with (first | (go_at_call 16; refine (fits4 _ _).mono ?_; rintro e w2 ⟨rfl, rfl⟩))
    rw [rounds_succ]
    go_wp2_with (first | (go_at_call 16; refine (fits1 _ _).mono ?_; rintro e w2 ⟨rfl, rfl⟩))
    rw [rounds_succ]
    go_wp2_with (first | (go_at_call 16; refine (fits5 _ _).mono ?_; rintro e w2 ⟨rfl, rfl⟩))
    rw [rounds_succ]
    go_wp2_with (first | (go_at_call 16; refine (fits24 _ _).mono ?_; rintro e w2 ⟨rfl, rfl⟩))
    go_ret2
    exact ⟨rfl, hfr⟩
theorem pack_any (c : CellV) (w : World) :
    Calls Try.prog 11 #[.agg #[.int .i64 c.kind, .int .i64 c.size, .int .i64 c.aux, .int .i64 c.mark]] w fun e w' => e = .returned (.tuple #[.int .i64 c.pack, .int .i64 c.err]) ∧ Fr Nil w w' := by
  by_cases hk : c.kind < 0 ∨ 10 < c.kind
  · have he : c.err = 6 := by simp [CellV.err, hk]
    have hp : c.pack = 0 := by simp [CellV.pack, he]
    rw [he, hp]
    exact pack_kind c w hk
  · have h0 : 0 ≤ c.kind := by omega
    have h1 : c.kind ≤ 10 := by omega
    by_cases hm : fitB c.mark 2 = true
    · by_cases hs : fitB c.size 32 = true
      · by_cases ha : fitB c.aux 16777216 = true
        · have he : c.err = 0 := by simp [CellV.err, hk, hm, hs, ha]
          have hp : c.pack = c.word := by simp [CellV.pack, he]
          rw [he, hp]
          exact pack_ok c w h0 h1 hm hs ha
        · have he : c.err = 1 := by simp [CellV.err, hk, ha]
          have hp : c.pack = 0 := by simp [CellV.pack, he]
          rw [he, hp]
          exact pack_bad c w h0 h1 (.inr (.inr ⟨hm, hs, by simpa using ha⟩))
      · have he : c.err = 1 := by simp [CellV.err, hk, hs]
        have hp : c.pack = 0 := by simp [CellV.pack, he]
        rw [he, hp]
        exact pack_bad c w h0 h1 (.inr (.inl ⟨hm, by simpa using hs⟩))
    · have he : c.err = 1 := by simp [CellV.err, hk, hm]
      have hp : c.pack = 0 := by simp [CellV.pack, he]
      rw [he, hp]
      exact pack_bad c w h0 h1 (.inl (by simpa using hm))
end Go.Proofs.Ytkdinblcbnlddaa
