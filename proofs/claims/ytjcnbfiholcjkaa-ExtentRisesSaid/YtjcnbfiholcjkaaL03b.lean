/-
  The statement 'ExtentRises', walked. No conditions.
-/
import Derived.Test.YtjcnbfiholcjkaaL03
namespace Go.Proofs.Ytjcnbfiholcjkaa
set_option linter.unusedSimpArgs false
set_option linter.unusedVariables false
open Go.RowKit Go.Shelf

theorem wrap64_eq (n : Int) : wrap64 n = IntKind.i64.wrap n := by
  rw [IntKind.wrap_i64]
  unfold wrap64
  omega
theorem can_next : ∀ {L : List (Nat × Nat)} {lo hi : Nat} (k : Nat) (hk : k + 1 < L.length), CanL lo hi L → L[k].1 + L[k].2 < L[k + 1].1
  | [], _, _, k, hk, _ => by simp at hk
  | [x], _, _, k, hk, _ => by simp at hk
  | x :: y :: l, _, _, 0, hk, ⟨h1, h2, h3, h4, h5⟩ => by simp; omega
  | x :: y :: l, _, _, k + 1, hk, ⟨h1, h2, h3, h4⟩ => by
    have := can_next k (by simpa using hk) h4
    simpa using this
theorem sumL_take {L : List (Nat × Nat)} {k : Nat} (hk : k < L.length) : sumL (L.take (k + 1)) = sumL (L.take k) + L[k].2 := by
  rw [List.take_succ_eq_append_getElem hk, sumL_app]; simp [sumL]
theorem sumL_le (L : List (Nat × Nat)) (k : Nat) : sumL (L.take k) ≤ sumL L := by
  have := sumL_app (L.take k) (L.drop k)
  rw [List.take_append_drop] at this
  omega
/-- The guard's test. -/
def OutB (f p : Int) (n : Nat) : Prop := f < 0 ∨ 65536 < f ∨ p < 0 ∨ 300 < p ∨ 60 < n
theorem rises_out (f p : Int) (v : Value) (zs : List Act3) (w : World) (hv : RowActs w v zs) (ho : OutB f p zs.length) :
    Calls Try.prog 5 #[.int .i64 f, .int .i64 p, v] w fun e w' => e = .returned (.bool true) ∧ Fr Nil w w' := by
  obtain ⟨a, cap, rfl, hrow⟩ := hv
  clear hrow
  unfold OutB at ho
  by_cases c1 : f < 0
  · have d1 := decide_eq_true c1
    clear ho
    go_enter Try.func5, Try.ntmps5
    go_wp2_with fail
    refine (awake_any _).mono ?_
    rintro e w0 ⟨rfl, f0⟩
    go_wp2
    go_ret
    exact ⟨rfl, f0⟩
  · have d1 := decide_eq_false c1
    by_cases c2 : 65536 < f
    · have d2 := decide_eq_true c2
      clear ho
      go_enter Try.func5, Try.ntmps5
      go_wp2_with fail
      refine (awake_any _).mono ?_
      rintro e w0 ⟨rfl, f0⟩
      go_wp2
      go_ret
      exact ⟨rfl, f0⟩
    · have d2 := decide_eq_false c2
      by_cases c3 : p < 0
      · have d3 := decide_eq_true c3
        clear ho
        go_enter Try.func5, Try.ntmps5
        go_wp2_with fail
        refine (awake_any _).mono ?_
        rintro e w0 ⟨rfl, f0⟩
        go_wp2
        go_ret
        exact ⟨rfl, f0⟩
      · have d3 := decide_eq_false c3
        by_cases c4 : 300 < p
        · have d4 := decide_eq_true c4
          clear ho
          go_enter Try.func5, Try.ntmps5
          go_wp2_with fail
          refine (awake_any _).mono ?_
          rintro e w0 ⟨rfl, f0⟩
          go_wp2
          go_ret
          exact ⟨rfl, f0⟩
        · have d4 := decide_eq_false c4
          have c5 : (60 : Int) < (zs.length : Int) := by omega
          have d5 := decide_eq_true c5
          clear ho
          go_enter Try.func5, Try.ntmps5
          go_wp2_with fail
          refine (awake_any _).mono ?_
          rintro e w0 ⟨rfl, f0⟩
          go_wp2
          go_ret
          exact ⟨rfl, f0⟩
set_option maxRecDepth 100000 in
set_option maxHeartbeats 4000000 in
theorem rises_in (f p : Nat) (hf : f ≤ 65536) (hp : p ≤ 300) (v : Value) (zs : List Act3) (w : World) (hv : RowActs w v zs) (hn : zs.length ≤ 60) (hx : ∀ x ∈ zs, IntKind.i64.wrap x.at_ = x.at_) :
    Calls Try.prog 5 #[.int .i64 (f : Int), .int .i64 (p : Int), v] w fun e w' => e = .returned (.bool true) ∧ Fr Nil w w' := by
  obtain ⟨a, cap, rfl, hrow⟩ := hv
  have n1 : ¬ (f : Int) < 0 := by omega
  have n2 : ¬ (65536 : Int) < (f : Int) := by omega
  have n3 : ¬ (p : Int) < 0 := by omega
  have n4 : ¬ (300 : Int) < (p : Int) := by omega
  have n5 : ¬ (60 : Int) < (zs.length : Int) := by omega
  have d1 := decide_eq_false n1
  have d2 := decide_eq_false n2
  have d3 := decide_eq_false n3
  have d4 := decide_eq_false n4
  have d5 := decide_eq_false n5
  have HX := Lib.hid (And.intro hrow hx)
  clear hrow hx
  go_enter Try.func5, Try.ntmps5
  go_wp2_with fail
  refine (awake_any _).mono ?_
  rintro e w0 ⟨rfl, f0⟩
  go_wp2_with fail
  refine (new_in f p (by omega) (by omega) _).mono ?_
  rintro e w1 ⟨v1, rfl, h1, f1⟩
  obtain ⟨br, hbr⟩ : ∃ br, w0.heap.size = br := ⟨_, rfl⟩
  rw [hbr] at h1 ⊢
  have hbw : w.heap.size ≤ br := by rw [← hbr]; exact f0.size
  have hf1 : Fr Nil w w1 := f0.comp f1
  clear hbr f0 f1
  have H1 := Lib.hid (And.intro h1 hf1)
  clear h1 hf1
  go_wp2_with fail
  go_loopg [9] zs.length (fun g iv wr => ∃ (j : Nat) (v' : Value) (L : List (Nat × Nat)), g = zs.length - j ∧ j ≤ zs.length ∧ iv = .int .i64 j ∧ RoomAt wr br f p v' L ∧ Fr Nil w wr)
  case atStart => exact ⟨0, _, _, rfl, by omega, rfl, H1.out.1, H1.out.2⟩
  case round =>
    obtain ⟨j, v', L, rfl, hj, rfl, hR, hw⟩ := hrel
    clear H1
    have HR := Lib.hid (And.intro hR hw)
    have hbl := hR.blk.lt
    clear hR
    by_cases hlt : j < zs.length
    · obtain ⟨b, off, rfl, hcell⟩ := HX.out.1 (by omega)
      obtain ⟨x, hxj⟩ : ∃ x, zs[j]? = some x := ⟨_, List.getElem?_eq_getElem hlt⟩
      obtain ⟨e0, e1, e2⟩ := hcell j x hxj
      have hxw : Hid (IntKind.i64.wrap x.at_ = x.at_) := HX.out.2 x (List.mem_of_getElem? hxj)
      have r0 := hw.cell e0 (by simp [Nil])
      have r1 := hw.cell e1 (by simp [Nil])
      have r2 := hw.cell e2 (by simp [Nil])
      have b1 : (0 : Int) ≤ (j : Int) := by omega
      have b2 : (j : Int) < (zs.length : Int) := by omega
      have hbl2 : b < wr.heap.size := World.block_lt_of_cell? _ _ r0
      clear hcell hxj e0 e1 e2 hw
      go_wp2_with fail
      refine (do_any br f p v' L _ (HR.out.1.fr (S := Nil) (by (repeat (first | (with_reducible exact Fr.refl _ _) | (with_reducible assumption) | (with_reducible exact Fr.of_nil (by assumption)) | (with_reducible refine Fr.drew ?_) | (with_reducible refine Fr.drewN ?_ _) | (with_reducible refine Fr.alloc ?_ _) | (with_reducible refine Fr.set ?_ _ _ (by first | (intros; omega) | (simp; done) | (simp; omega))) | (with_reducible refine Fr.via ?_ (by assumption)) | (with_reducible refine Fr.comp ?_ (by assumption))))) (fun _ _ q => q)) x hxw.out).mono ?_
      rintro e w3 ⟨v3, rfl, h3, g3, f3⟩
      have hw3 : Fr Nil w w3 := (HR.out.2.trans (S' := TS br v') (by first | exact f3 | exact (Fr.refl _ _).comp f3) (fun k hk q => by have := HR.out.1.ge k q; omega))
      obtain ⟨M, hM⟩ : ∃ M, (doR f p x L).2.2 = M := ⟨_, rfl⟩
      rw [hM] at h3
      have H3 := Lib.hid (And.intro h3 hw3)
      have hb3 := h3.blk.lt
      clear h3 hw3 g3 f3 hM HR r0 r1 r2
      go_wp2_with fail
      refine (list_any br f p v3 M _ H3.out.1).mono ?_
      rintro e w4 ⟨v4, rfl, h4, f4⟩
      obtain ⟨a4, c4, rfl⟩ := h4.shape
      have hlen := H3.out.1.len
      have hsum : f + sumL M ≤ f + p := can_sum H3.out.1.can (by omega)
      have hb4 : br < w4.heap.size := Nat.lt_of_lt_of_le hb3 f4.size
      have H4 := Lib.hid (And.intro h4 f4)
      clear h4 f4
      go_wp2_with fail
      go_loopg [12, 11] M.length (fun g iv sv wq => ∃ k : Nat, g = M.length - k ∧ k ≤ M.length ∧ iv = .int .i64 k ∧ sv = .int .i64 (sumL (M.take k) : Nat) ∧ Fr Nil w4 wq)
      case atStart => exact ⟨0, rfl, by omega, rfl, rfl, Fr.refl _ _⟩
      case round =>
        obtain ⟨k, rfl, hk, rfl, rfl, hq⟩ := hrel
        by_cases hkl : k < M.length
        · obtain ⟨g5, d5', e5⟩ := H4.out.1.form (by omega)
          injection e5 with e5 _ e5'
          subst e5 e5'
          obtain ⟨p0, p1⟩ := pair_cell (H4.out.1.fr hq) rfl k hkl
          have m := can_mem H3.out.1.can _ (List.getElem_mem hkl)
          have i0 : (0 : Int) ≤ (k : Int) := by omega
          have i1 : (k : Int) < (M.length : Int) := by omega
          have lt5 : g5 < wr.heap.size := World.block_lt_of_cell? wr _ p0
          have hst := sumL_take hkl
          have hsl := sumL_le M (k + 1)
          obtain ⟨x1, ex1⟩ : ∃ x1, M[k].1 = x1 := ⟨_, rfl⟩
          obtain ⟨x2, ex2⟩ : ∃ x2, M[k].2 = x2 := ⟨_, rfl⟩
          rw [ex1, ex2] at m
          rw [ex1] at p0
          rw [ex2] at p1
          rw [ex2] at hst
          have ws : IntKind.i64.wrap ((sumL (M.take k) : Int) + (x2 : Int)) = (sumL (M.take (k + 1)) : Nat) := by rw [IntKind.wrap_i64]; omega
          have t1 : ¬ (x2 : Int) < 1 := by omega
          have t2 : ¬ (x1 : Int) < (f : Int) := by omega
          have w1' : IntKind.i64.wrap ((x1 : Int) - (f : Int)) = (x1 : Int) - (f : Int) := by rw [IntKind.wrap_i64]; omega
          have w2' : IntKind.i64.wrap ((p : Int) - (x2 : Int)) = (p : Int) - (x2 : Int) := by rw [IntKind.wrap_i64]; omega
          have t3 : ¬ (p : Int) - (x2 : Int) < (x1 : Int) - (f : Int) := by omega
          have u1 := decide_eq_false t1
          have u2 := decide_eq_false t2
          have u3 := decide_eq_false t3
          have u5 : decide (x2 < 1) = false := decide_eq_false (by omega)
          have u6 : decide (x1 < f) = false := decide_eq_false (by omega)
          have v2 : f ≤ x1 := by omega
          have v3 : (x1 : Int) - (f : Int) ≤ (p : Int) - (x2 : Int) := by omega
          rcases Nat.eq_zero_or_pos k with rfl | hkp
          · have HS := Lib.hid (And.intro hst (And.intro hsl (And.intro ex1 ex2)))
            clear hst hsl ex1 ex2 m
            simp at p0 p1
            have wz : wrap64 ((sumL [] : Nat) + (x2 : Int)) = ((sumL (M.take 1) : Nat) : Int) := by
              rw [List.take_zero, Nat.zero_add] at ws
              rw [wrap64_eq]
              exact ws
            have WZ := Lib.hid wz
            clear wz ws
            go_wp2
            go_quiet (fail)
            go_wp2
            go_roundg (M.length - 1)
            case rel => exact ⟨1, rfl, by omega, by first | rfl | go_num, by rw [WZ.out], by (repeat (first | (with_reducible exact Fr.refl _ _) | (with_reducible assumption) | (with_reducible exact Fr.of_nil (by assumption)) | (with_reducible refine Fr.drew ?_) | (with_reducible refine Fr.drewN ?_ _) | (with_reducible refine Fr.alloc ?_ _) | (with_reducible refine Fr.set ?_ _ _ (by first | (intros; omega) | (simp; done) | (simp; omega))) | (with_reducible refine Fr.via ?_ (by assumption)) | (with_reducible refine Fr.comp ?_ (by assumption))))⟩
            case measure => omega
          · obtain ⟨i, rfl⟩ : ∃ i, k = i + 1 := ⟨k - 1, by omega⟩
            have hnx := can_next i hkl H3.out.1.can
            obtain ⟨s0, s1⟩ := pair_cell (H4.out.1.fr hq) rfl i (by omega)
            have m' := can_mem H3.out.1.can _ (List.getElem_mem (l := M) (n := i) (by omega))
            obtain ⟨y1, ey1⟩ : ∃ y1, M[i].1 = y1 := ⟨_, rfl⟩
            obtain ⟨y2, ey2⟩ : ∃ y2, M[i].2 = y2 := ⟨_, rfl⟩
            rw [ey1, ey2, ex1] at hnx
            rw [ey1, ey2] at m'
            rw [ey1] at s0
            rw [ey2] at s1
            have wy : IntKind.i64.wrap ((y1 : Int) + (y2 : Int)) = (y1 : Int) + (y2 : Int) := by rw [IntKind.wrap_i64]; omega
            have t4 : ¬ (x1 : Int) ≤ (y1 : Int) + (y2 : Int) := by omega
            have u4 := decide_eq_false t4
            have htn : ((i : Int) + 1).toNat = i + 1 := by omega
            have j0 : (0 : Int) ≤ (i : Int) + 1 := by omega
            have j1 : (i : Int) + 1 < (M.length : Int) := by omega
            have j2 : (i : Int) < (M.length : Int) := by omega
            have j3 : (0 : Int) < (i : Int) + 1 := by omega
            have HS := Lib.hid (And.intro hst (And.intro hsl (And.intro ex1 ex2)))
            clear hst hsl ex1 ex2 m ey1 ey2 m' hnx
            go_wp2
            go_quiet (fail)
            go_wp2
            go_roundg (M.length - (i + 1 + 1))
            case rel => exact ⟨i + 1 + 1, rfl, by omega, by go_num, by first | rfl | simp [ws] | simp, by (repeat (first | (with_reducible exact Fr.refl _ _) | (with_reducible assumption) | (with_reducible exact Fr.of_nil (by assumption)) | (with_reducible refine Fr.drew ?_) | (with_reducible refine Fr.drewN ?_ _) | (with_reducible refine Fr.alloc ?_ _) | (with_reducible refine Fr.set ?_ _ _ (by first | (intros; omega) | (simp; done) | (simp; omega))) | (with_reducible refine Fr.via ?_ (by assumption)) | (with_reducible refine Fr.comp ?_ (by assumption))))⟩
            case measure => omega
        · obtain rfl : k = M.length := by omega
          have i1 : ¬ ((M.length : Int) < (M.length : Int)) := by omega
          rw [List.take_length]
          have H5 := Lib.hid (H3.out.1.fr (H4.out.2.comp hq) (fun _ _ q => q))
          go_wp2_with fail
          refine (free_any br f p v3 M _ H5.out).mono ?_
          rintro e w6 ⟨rfl, f6⟩
          go_wp2
          go_roundg (zs.length - (j + 1))
          case rel => exact ⟨j + 1, v3, M, rfl, by omega, by go_num, H5.out.fr (S := Nil) (by (repeat (first | (with_reducible exact Fr.refl _ _) | (with_reducible assumption) | (with_reducible exact Fr.of_nil (by assumption)) | (with_reducible refine Fr.drew ?_) | (with_reducible refine Fr.drewN ?_ _) | (with_reducible refine Fr.alloc ?_ _) | (with_reducible refine Fr.set ?_ _ _ (by first | (intros; omega) | (simp; done) | (simp; omega))) | (with_reducible refine Fr.via ?_ (by assumption)) | (with_reducible refine Fr.comp ?_ (by assumption))))) (fun _ _ q => q), (H3.out.2.comp (H4.out.2.comp hq)).trans (S' := Nil) (by (repeat (first | (with_reducible exact Fr.refl _ _) | (with_reducible assumption) | (with_reducible exact Fr.of_nil (by assumption)) | (with_reducible refine Fr.drew ?_) | (with_reducible refine Fr.drewN ?_ _) | (with_reducible refine Fr.alloc ?_ _) | (with_reducible refine Fr.set ?_ _ _ (by first | (intros; omega) | (simp; done) | (simp; omega))) | (with_reducible refine Fr.via ?_ (by assumption)) | (with_reducible refine Fr.comp ?_ (by assumption))))) (fun _ _ q => q)⟩
          case measure => omega
    · obtain rfl : j = zs.length := by omega
      have i1 : ¬ ((zs.length : Int) < (zs.length : Int)) := by omega
      go_wp2
      go_ret
      exact ⟨rfl, hw⟩
theorem rises_any (f p : Int) (v : Value) (zs : List Act3) (w : World) (hv : RowActs w v zs) (hx : ∀ x ∈ zs, IntKind.i64.wrap x.at_ = x.at_) :
    Calls Try.prog 5 #[.int .i64 f, .int .i64 p, v] w fun e w' => e = .returned (.bool true) ∧ Fr Nil w w' := by
  by_cases ho : OutB f p zs.length
  · exact rises_out f p v zs w hv ho
  · unfold OutB at ho
    obtain ⟨f, rfl⟩ := Int.eq_ofNat_of_zero_le (by omega : 0 ≤ f)
    obtain ⟨p, rfl⟩ := Int.eq_ofNat_of_zero_le (by omega : 0 ≤ p)
    exact rises_in f p (by omega) (by omega) v zs w hv (by omega) hx
end Go.Proofs.Ytjcnbfiholcjkaa
