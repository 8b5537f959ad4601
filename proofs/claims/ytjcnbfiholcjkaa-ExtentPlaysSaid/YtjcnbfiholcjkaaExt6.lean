/-
  Contracts: extent.New, the document's Same, the laws' awake and do. No conditions but sizes.
-/
import Derived.Test.YtjcnbfiholcjkaaExt5
import Derived.ChangeKeysEq
namespace Go.Proofs.Ytjcnbfiholcjkaa
set_option linter.unusedSimpArgs false
set_option linter.unusedVariables false
open Go.RowKit Go.Shelf

/-- The runs of a new room. -/
def newL (f p : Nat) : List (Nat × Nat) := if p = 0 then [] else [(f, p)]
theorem newL_can (f p : Nat) : CanL f (f + p) (newL f p) := by
  unfold newL
  split
  · trivial
  · exact ⟨Nat.le_refl _, by simp only []; omega, Nat.le_refl _, trivial⟩
theorem new_in (f p : Nat) (hf : f ≤ 65536) (hp : p ≤ 65536) (w : World) :
    Calls Try.prog 8 #[.int .i64 (f : Int), .int .i64 (p : Int)] w fun e w' => ∃ v, e = .returned (.tuple #[.pointer (some ⟨w.heap.size, 0, none⟩), .int .i64 0]) ∧ RoomAt w' w.heap.size f p v (newL f p) ∧ Fr Nil w w' := by
  have n1 : ¬ (f : Int) < 0 := by omega
  have n2 : ¬ (65536 : Int) < (f : Int) := by omega
  have n3 : ¬ (p : Int) < 0 := by omega
  have n4 : ¬ (65536 : Int) < (p : Int) := by omega
  have d1 := decide_eq_false n1
  have d2 := decide_eq_false n2
  have d3 := decide_eq_false n3
  have d4 := decide_eq_false n4
  have hc := newL_can f p
  rcases Nat.eq_zero_or_pos p with rfl | hpp
  · have HC := Lib.hid hc
    clear hc
    go_enter Try.func8, Try.ntmps8
    go_wp2
    go_ret2
    exact ⟨rfl, ⟨Value.slice none 0 0, ⟨by (unfold Blk; simp (disch := first | omega | (simp; done) | (simp; omega)) only [hp_drew, hp_drewN, hp_alloc, hp_other, hp_same, hp_new, upd_cells, Option.map_some]); rfl, World.ownsRow_nil _ _ _ _, HC.out, hf, by omega⟩⟩, by (repeat (first | (with_reducible exact Fr.refl _ _) | (with_reducible assumption) | (with_reducible exact Fr.of_nil (by assumption)) | (with_reducible refine Fr.drew ?_) | (with_reducible refine Fr.drewN ?_ _) | (with_reducible refine Fr.alloc ?_ _) | (with_reducible refine Fr.set ?_ _ _ (by first | (intros; omega) | (simp; done) | (simp; omega))) | (with_reducible refine Fr.via ?_ (by assumption)) | (with_reducible refine Fr.comp ?_ (by assumption))))⟩
  · have HC := Lib.hid hc
    have n5 : (0 : Int) < (p : Int) := by omega
    have HN := Lib.hid (show newL f p = [(f, p)] by unfold newL; rw [if_neg (by omega)])
    clear hc
    go_enter Try.func8, Try.ntmps8
    go_wp2
    go_ret2
    rw [HN.out] at HC ⊢
    exact ⟨rfl, ⟨_, ⟨by (unfold Blk; simp (disch := first | omega | (simp; done) | (simp; omega)) only [hp_drew, hp_drewN, hp_alloc, hp_other, hp_same, hp_new, upd_cells, Option.map_some]); rfl, PairsAt.mk rfl (g := w.heap.size + 1) (cur := #[.int .i64 (f : Int), .int .i64 (p : Int)]) (by omega) (by (unfold Blk; simp (disch := first | omega | (simp; done) | (simp; omega)) only [hp_drew, hp_drewN, hp_alloc, hp_other, hp_same, hp_new, upd_cells, Option.map_some])) (by simp) (by unfold maxLen; omega) rfl rfl, HC.out, hf, hp⟩⟩, by (repeat (first | (with_reducible exact Fr.refl _ _) | (with_reducible assumption) | (with_reducible exact Fr.of_nil (by assumption)) | (with_reducible refine Fr.drew ?_) | (with_reducible refine Fr.drewN ?_ _) | (with_reducible refine Fr.alloc ?_ _) | (with_reducible refine Fr.set ?_ _ _ (by first | (intros; omega) | (simp; done) | (simp; omega))) | (with_reducible refine Fr.via ?_ (by assumption)) | (with_reducible refine Fr.comp ?_ (by assumption))))⟩
theorem new_out (f p : Int) (h : f < 0 ∨ 65536 < f ∨ p < 0 ∨ 65536 < p) (w : World) :
    Calls Try.prog 8 #[.int .i64 f, .int .i64 p] w fun e w' => e = .returned (.tuple #[.pointer none, .int .i64 1]) ∧ Fr Nil w w' := by
  by_cases c1 : f < 0
  · have d1 := decide_eq_true c1
    clear h
    go_enter Try.func8, Try.ntmps8
    go_wp2
    go_ret2
    exact ⟨rfl, by (repeat (first | (with_reducible exact Fr.refl _ _) | (with_reducible assumption) | (with_reducible exact Fr.of_nil (by assumption)) | (with_reducible refine Fr.drew ?_) | (with_reducible refine Fr.drewN ?_ _) | (with_reducible refine Fr.alloc ?_ _) | (with_reducible refine Fr.set ?_ _ _ (by first | (intros; omega) | (simp; done) | (simp; omega))) | (with_reducible refine Fr.via ?_ (by assumption)) | (with_reducible refine Fr.comp ?_ (by assumption))))⟩
  · have d1 := decide_eq_false c1
    by_cases c2 : 65536 < f
    · have d2 := decide_eq_true c2
      clear h
      go_enter Try.func8, Try.ntmps8
      go_wp2
      go_ret2
      exact ⟨rfl, by (repeat (first | (with_reducible exact Fr.refl _ _) | (with_reducible assumption) | (with_reducible exact Fr.of_nil (by assumption)) | (with_reducible refine Fr.drew ?_) | (with_reducible refine Fr.drewN ?_ _) | (with_reducible refine Fr.alloc ?_ _) | (with_reducible refine Fr.set ?_ _ _ (by first | (intros; omega) | (simp; done) | (simp; omega))) | (with_reducible refine Fr.via ?_ (by assumption)) | (with_reducible refine Fr.comp ?_ (by assumption))))⟩
    · have d2 := decide_eq_false c2
      by_cases c3 : p < 0
      · have d3 := decide_eq_true c3
        clear h
        go_enter Try.func8, Try.ntmps8
        go_wp2
        go_ret2
        exact ⟨rfl, by (repeat (first | (with_reducible exact Fr.refl _ _) | (with_reducible assumption) | (with_reducible exact Fr.of_nil (by assumption)) | (with_reducible refine Fr.drew ?_) | (with_reducible refine Fr.drewN ?_ _) | (with_reducible refine Fr.alloc ?_ _) | (with_reducible refine Fr.set ?_ _ _ (by first | (intros; omega) | (simp; done) | (simp; omega))) | (with_reducible refine Fr.via ?_ (by assumption)) | (with_reducible refine Fr.comp ?_ (by assumption))))⟩
      · have d3 := decide_eq_false c3
        have c4 : 65536 < p := by omega
        have d4 := decide_eq_true c4
        clear h
        go_enter Try.func8, Try.ntmps8
        go_wp2
        go_ret2
        exact ⟨rfl, by (repeat (first | (with_reducible exact Fr.refl _ _) | (with_reducible assumption) | (with_reducible exact Fr.of_nil (by assumption)) | (with_reducible refine Fr.drew ?_) | (with_reducible refine Fr.drewN ?_ _) | (with_reducible refine Fr.alloc ?_ _) | (with_reducible refine Fr.set ?_ _ _ (by first | (intros; omega) | (simp; done) | (simp; omega))) | (with_reducible refine Fr.via ?_ (by assumption)) | (with_reducible refine Fr.comp ?_ (by assumption))))⟩
theorem info_int : (Try.prog.info? 3).isSome = true := by kernel_rfl
theorem run_neq_pair (w : World) (x1 x2 y1 y2 : Int) : (binOp .neq 45 (.agg #[.int .i64 x1, .int .i64 x2]) (.agg #[.int .i64 y1, .int .i64 y2])).run Try.prog w = .ok (.bool (!(x1 == y1 && x2 == y2))) w := by
  obtain ⟨i, hi⟩ := Option.isSome_iff_exists.1 info_int
  have hp : Try.prog.plainKey 3 = true := by kernel_rfl
  have hc : Try.prog.cellsOf 3 = 1 := by kernel_rfl
  have h : ∀ d : Nat, (Op.equalIn (d + 1 + 1) 45 (.agg #[.int .i64 x1, .int .i64 x2]) (.agg #[.int .i64 y1, .int .i64 y2])).run Try.prog w = .ok (x1 == y1 && x2 == y2) w := fun d => by
    rw [run_equalIn_array w (d + 1) _ _ Try.underlying45 hi, hc, show List.range 2 = [0, 1] from rfl]
    have p0 := run_part_plain w hp (xs := #[.int .i64 x1, .int .i64 x2]) (off := 0) (v := .int .i64 x1) rfl
    have p1 := run_part_plain w hp (xs := #[.int .i64 x1, .int .i64 x2]) (off := 1) (v := .int .i64 x2) rfl
    have q0 := run_part_plain w hp (xs := #[.int .i64 y1, .int .i64 y2]) (off := 0) (v := .int .i64 y1) rfl
    have q1 := run_part_plain w hp (xs := #[.int .i64 y1, .int .i64 y2]) (off := 1) (v := .int .i64 y2) rfl
    simp only [Op.eqItems, Sem.run_bind, Nat.zero_mul, Nat.one_mul, p0, p1, q0, q1, Result.andThen_ok, run_equalIn_int w d _ .i64 .i64 _ _ Try.underlying3]
    generalize (x1 == y1) = b1
    cases b1
    · simp
    · have e2 := run_equalIn_int (P := Try.prog) w d 3 .i64 .i64 x2 y2 Try.underlying3
      generalize (x2 == y2) = b2 at e2 ⊢
      cases b2 <;> simp [p1, q1, e2]
  simp only [binOp]
  simp [Op.equal, Op.maxDepth, h 9998]
theorem same_any (A B : List (Nat × Nat)) (va vb : Value) (b1 b2 : Nat) (w : World) (h1 : PairsAt b1 w va A) (h2 : PairsAt b2 w vb B) (hl : A.length ≤ 1000000) (hl2 : B.length ≤ 1000000) :
    Calls Try.prog 12 #[va, vb] w fun e w' => e = .returned (.bool (decide (A = B))) ∧ Fr Nil w w' := by
  by_cases hlen : A.length = B.length
  · obtain ⟨a1, k1, rfl⟩ := h1.shape
    obtain ⟨a2, k2, rfl⟩ := h2.shape
    obtain ⟨N, hN⟩ : ∃ N, A.length = N := ⟨_, rfl⟩
    have hNB : B.length = N := by rw [← hlen]; exact hN
    rw [hN] at hl ⊢
    rw [hNB] at ⊢
    have H := Lib.hid (And.intro h1 (And.intro h2 (And.intro hN hNB)))
    clear h1 h2 hN hNB hl2 hlen
    have hnp := run_neq_pair
    go_enter Try.func12, Try.ntmps12
    go_wp2_with fail
    go_loopg [5] N (fun g iv wr => ∃ k : Nat, g = N - k ∧ k ≤ N ∧ iv = .int .i64 k ∧ Hid (A.take k = B.take k) ∧ Fr Nil w wr)
    case atStart => exact ⟨0, rfl, by omega, rfl, Lib.hid rfl, Fr.refl _ _⟩
    case round =>
      obtain ⟨k, rfl, hk, rfl, HT, hw⟩ := hrel
      by_cases hlt : k < N
      · have hkA : k < A.length := by rw [H.out.2.2.1]; exact hlt
        have hkB : k < B.length := by rw [H.out.2.2.2]; exact hlt
        obtain ⟨g1, d1, e1⟩ := H.out.1.form (by omega)
        injection e1 with e1 _ e1'
        subst e1 e1'
        obtain ⟨g2, d2, e2⟩ := H.out.2.1.form (by omega)
        injection e2 with e2 _ e2'
        subst e2 e2'
        obtain ⟨p0, p1⟩ := pair_cell (H.out.1.fr hw) rfl k hkA
        obtain ⟨q0, q1⟩ := pair_cell (H.out.2.1.fr hw) rfl k hkB
        have i0 : (0 : Int) ≤ (k : Int) := by omega
        have i1 : (k : Int) < (N : Int) := by omega
        have lt1 : g1 < wr.heap.size := World.block_lt_of_cell? wr _ p0
        have lt2 : g2 < wr.heap.size := World.block_lt_of_cell? wr _ q0
        have htk : A.take (k + 1) = B.take (k + 1) ↔ A[k] = B[k] := by
          rw [List.take_succ_eq_append_getElem hkA, List.take_succ_eq_append_getElem hkB, HT.out, List.append_cancel_left_eq]
          simp
        have hne : A[k] ≠ B[k] → A ≠ B := fun q e => q (by subst e; rfl)
        obtain ⟨x1, ex1⟩ : ∃ x1, A[k].1 = x1 := ⟨_, rfl⟩
        obtain ⟨x2, ex2⟩ : ∃ x2, A[k].2 = x2 := ⟨_, rfl⟩
        obtain ⟨y1, ey1⟩ : ∃ y1, B[k].1 = y1 := ⟨_, rfl⟩
        obtain ⟨y2, ey2⟩ : ∃ y2, B[k].2 = y2 := ⟨_, rfl⟩
        have hext : A[k] = B[k] ↔ x1 = y1 ∧ x2 = y2 := by
          rw [← ex1, ← ex2, ← ey1, ← ey2]
          exact Prod.ext_iff
        rw [ex1] at p0
        rw [ex2] at p1
        rw [ey1] at q0
        rw [ey2] at q1
        have HE := Lib.hid (And.intro htk (And.intro hne hext))
        clear ex1 ex2 ey1 ey2 htk hne hext
        by_cases c1 : x1 = y1
        · by_cases c2 : x2 = y2
          · subst c1 c2
            go_wp2
            go_quiet (fail)
            go_wp2
            go_roundg (N - (k + 1))
            case rel => exact ⟨k + 1, rfl, by omega, by go_num, Lib.hid (HE.out.1.2 (HE.out.2.2.2 (by simp))), by (repeat (first | (with_reducible exact Fr.refl _ _) | (with_reducible assumption) | (with_reducible exact Fr.of_nil (by assumption)) | (with_reducible refine Fr.drew ?_) | (with_reducible refine Fr.drewN ?_ _) | (with_reducible refine Fr.alloc ?_ _) | (with_reducible refine Fr.set ?_ _ _ (by first | (intros; omega) | (simp; done) | (simp; omega))) | (with_reducible refine Fr.via ?_ (by assumption)) | (with_reducible refine Fr.comp ?_ (by assumption))))⟩
            case measure => omega
          · subst c1
            have d1 : ((x2 : Int) == (y2 : Int)) = false := by simp; omega
            have d2 : ¬ (x2 : Int) = (y2 : Int) := by omega
            have HF : Hid (decide (A = B) = false) := decide_eq_false (HE.out.2.1 (fun q => c2 (HE.out.2.2.1 q).2))
            go_wp2
            go_quiet (fail)
            go_wp2
            go_ret
            exact ⟨by rw [HF.out]; rfl, by (repeat (first | (with_reducible exact Fr.refl _ _) | (with_reducible assumption) | (with_reducible exact Fr.of_nil (by assumption)) | (with_reducible refine Fr.drew ?_) | (with_reducible refine Fr.drewN ?_ _) | (with_reducible refine Fr.alloc ?_ _) | (with_reducible refine Fr.set ?_ _ _ (by first | (intros; omega) | (simp; done) | (simp; omega))) | (with_reducible refine Fr.via ?_ (by assumption)) | (with_reducible refine Fr.comp ?_ (by assumption))))⟩
        · have d1 : ((x1 : Int) == (y1 : Int)) = false := by simp; omega
          have d2 : ¬ (x1 : Int) = (y1 : Int) := by omega
          have HF : Hid (decide (A = B) = false) := decide_eq_false (HE.out.2.1 (fun q => c1 (HE.out.2.2.1 q).1))
          go_wp2
          go_quiet (fail)
          go_wp2
          go_ret
          exact ⟨by rw [HF.out]; rfl, by (repeat (first | (with_reducible exact Fr.refl _ _) | (with_reducible assumption) | (with_reducible exact Fr.of_nil (by assumption)) | (with_reducible refine Fr.drew ?_) | (with_reducible refine Fr.drewN ?_ _) | (with_reducible refine Fr.alloc ?_ _) | (with_reducible refine Fr.set ?_ _ _ (by first | (intros; omega) | (simp; done) | (simp; omega))) | (with_reducible refine Fr.via ?_ (by assumption)) | (with_reducible refine Fr.comp ?_ (by assumption))))⟩
      · obtain rfl : k = N := by omega
        have i1 : ¬ ((k : Int) < (k : Int)) := by omega
        have HF : Hid (decide (A = B) = true) := decide_eq_true (by
          have e := HT.out
          rw [List.take_of_length_le (by rw [H.out.2.2.1]; exact Nat.le_refl _), List.take_of_length_le (by rw [H.out.2.2.2]; exact Nat.le_refl _)] at e
          exact e)
        go_wp2
        go_ret
        exact ⟨by rw [HF.out]; rfl, by (repeat (first | (with_reducible exact Fr.refl _ _) | (with_reducible assumption) | (with_reducible exact Fr.of_nil (by assumption)) | (with_reducible refine Fr.drew ?_) | (with_reducible refine Fr.drewN ?_ _) | (with_reducible refine Fr.alloc ?_ _) | (with_reducible refine Fr.set ?_ _ _ (by first | (intros; omega) | (simp; done) | (simp; omega))) | (with_reducible refine Fr.via ?_ (by assumption)) | (with_reducible refine Fr.comp ?_ (by assumption))))⟩
  · obtain ⟨a1, k1, rfl⟩ := h1.shape
    obtain ⟨a2, k2, rfl⟩ := h2.shape
    have HF : Hid (decide (A = B) = false) := decide_eq_false (fun q => hlen (by rw [q]))
    rw [HF.out]
    have d2 : ¬ (A.length : Int) = (B.length : Int) := by omega
    have d1 := decide_eq_false d2
    have d3 : ((A.length : Int) == (B.length : Int)) = false := by simp; omega
    clear h1 h2
    go_enter Try.func12, Try.ntmps12
    go_wp2
    go_ret
    exact ⟨rfl, by (repeat (first | (with_reducible exact Fr.refl _ _) | (with_reducible assumption) | (with_reducible exact Fr.of_nil (by assumption)) | (with_reducible refine Fr.drew ?_) | (with_reducible refine Fr.drewN ?_ _) | (with_reducible refine Fr.alloc ?_ _) | (with_reducible refine Fr.set ?_ _ _ (by first | (intros; omega) | (simp; done) | (simp; omega))) | (with_reducible refine Fr.via ?_ (by assumption)) | (with_reducible refine Fr.comp ?_ (by assumption))))⟩
end Go.Proofs.Ytjcnbfiholcjkaa
