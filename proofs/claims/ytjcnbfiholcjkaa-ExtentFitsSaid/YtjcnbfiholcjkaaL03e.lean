/-
  The statement 'ExtentFits', walked. No conditions.
-/
import Derived.Test.YtjcnbfiholcjkaaL03
namespace Go.Proofs.Ytjcnbfiholcjkaa
set_option linter.unusedSimpArgs false
set_option linter.unusedVariables false
open Go.RowKit Go.Shelf

/-- Where the first run begins that has so many places; -1: there is none. -/
def wantI (n : Nat) (L : List (Nat × Nat)) : Int := match takeL n L with
  | none => -1
  | some r => (r.1 : Int)
theorem wantI_nil (n : Nat) : wantI n [] = -1 := rfl
theorem wantI_cons (n : Nat) (x : Nat × Nat) (l : List (Nat × Nat)) : wantI n (x :: l) = if n ≤ x.2 then (x.1 : Int) else wantI n l := by
  unfold wantI
  rw [takeL]
  by_cases c : n ≤ x.2
  · rw [if_pos c, if_pos c]
  · rw [if_neg c, if_neg c]
    cases takeL n l <;> rfl
theorem wantI_drop (n : Nat) {L : List (Nat × Nat)} {i : Nat} (hi : i < L.length) : wantI n (L.drop i) = if n ≤ L[i].2 then (L[i].1 : Int) else wantI n (L.drop (i + 1)) := by
  rw [List.drop_eq_getElem_cons hi, wantI_cons]
/-- The guard's test. -/
def OutE (f p : Int) (m : Nat) (n : Int) : Prop := f < 0 ∨ 65536 < f ∨ p < 0 ∨ 300 < p ∨ 60 < m ∨ n < 1
theorem fits_out (f p : Int) (v : Value) (zs : List Act3) (n : Int) (w : World) (hv : RowActs w v zs) (ho : OutE f p zs.length n) :
    Calls Try.prog 6 #[.int .i64 f, .int .i64 p, v, .int .i64 n] w fun e w' => e = .returned (.bool true) ∧ Fr Nil w w' := by
  obtain ⟨a, cap, rfl, hrow⟩ := hv
  clear hrow
  unfold OutE at ho
  by_cases c1 : f < 0
  · have d1 := decide_eq_true c1
    clear ho
    go_enter Try.func6, Try.ntmps6
    go_wp2_with fail
    refine (awake_any _).mono ?_
    rintro e w0 ⟨rfl, f0⟩
    go_wp2
    go_ret
    exact ⟨rfl, f0⟩
  · have d1 := decide_eq_false c1
    by_cases c2 : 65536 < f
    · have d2 := decide_eq_true c2
      clear ho
      go_enter Try.func6, Try.ntmps6
      go_wp2_with fail
      refine (awake_any _).mono ?_
      rintro e w0 ⟨rfl, f0⟩
      go_wp2
      go_ret
      exact ⟨rfl, f0⟩
    · have d2 := decide_eq_false c2
      by_cases c3 : p < 0
      · have d3 := decide_eq_true c3
        clear ho
        go_enter Try.func6, Try.ntmps6
        go_wp2_with fail
        refine (awake_any _).mono ?_
        rintro e w0 ⟨rfl, f0⟩
        go_wp2
        go_ret
        exact ⟨rfl, f0⟩
      · have d3 := decide_eq_false c3
        by_cases c4 : 300 < p
        · have d4 := decide_eq_true c4
          clear ho
          go_enter Try.func6, Try.ntmps6
          go_wp2_with fail
          refine (awake_any _).mono ?_
          rintro e w0 ⟨rfl, f0⟩
          go_wp2
          go_ret
          exact ⟨rfl, f0⟩
        · have d4 := decide_eq_false c4
          by_cases c5 : (60 : Int) < (zs.length : Int)
          · have d5 := decide_eq_true c5
            clear ho
            go_enter Try.func6, Try.ntmps6
            go_wp2_with fail
            refine (awake_any _).mono ?_
            rintro e w0 ⟨rfl, f0⟩
            go_wp2
            go_ret
            exact ⟨rfl, f0⟩
          · have d5 := decide_eq_false c5
            have c6 : n < 1 := by omega
            have d6 := decide_eq_true c6
            clear ho
            go_enter Try.func6, Try.ntmps6
            go_wp2_with fail
            refine (awake_any _).mono ?_
            rintro e w0 ⟨rfl, f0⟩
            go_wp2
            go_ret
            exact ⟨rfl, f0⟩
set_option maxRecDepth 100000 in
set_option maxHeartbeats 4000000 in
theorem fits_in (f p : Nat) (hf : f ≤ 65536) (hp : p ≤ 300) (v : Value) (zs : List Act3) (n : Nat) (hn1 : 1 ≤ n) (w : World) (hv : RowActs w v zs) (hn : zs.length ≤ 60) (hx : ∀ x ∈ zs, IntKind.i64.wrap x.at_ = x.at_) :
    Calls Try.prog 6 #[.int .i64 (f : Int), .int .i64 (p : Int), v, .int .i64 (n : Int)] w fun e w' => e = .returned (.bool true) ∧ Fr Nil w w' := by
  obtain ⟨a, cap, rfl, hrow⟩ := hv
  have n1 : ¬ (f : Int) < 0 := by omega
  have n2 : ¬ (65536 : Int) < (f : Int) := by omega
  have n3 : ¬ (p : Int) < 0 := by omega
  have n4 : ¬ (300 : Int) < (p : Int) := by omega
  have n5 : ¬ (60 : Int) < (zs.length : Int) := by omega
  have n6 : ¬ (n : Int) < 1 := by omega
  have d1 := decide_eq_false n1
  have d2 := decide_eq_false n2
  have d3 := decide_eq_false n3
  have d4 := decide_eq_false n4
  have d5 := decide_eq_false n5
  have d6 := decide_eq_false n6
  have HX := Lib.hid (And.intro hrow hx)
  clear hrow hx
  go_enter Try.func6, Try.ntmps6
  go_wp2_with fail
  refine (awake_any _).mono ?_
  rintro e w0 ⟨rfl, f0⟩
  go_wp2_with fail
  refine (new_in f p (by omega) (by omega) _).mono ?_
  rintro e w1 ⟨v1, rfl, h1, f1⟩
  obtain ⟨br, hbr⟩ : ∃ br, w0.heap.size = br := ⟨_, rfl⟩
  rw [hbr] at h1 ⊢
  have hbw : w.heap.size ≤ br := by rw [← hbr]; exact f0.size
  have hf1 : Fr Nil w w1 := f0.comp f1
  clear hbr f0 f1
  have H1 := Lib.hid (And.intro h1 hf1)
  clear h1 hf1
  go_wp2_with fail
  go_loopg [11] zs.length (fun g iv wr => ∃ (j : Nat) (v' : Value) (L : List (Nat × Nat)), g = zs.length - j ∧ j ≤ zs.length ∧ iv = .int .i64 j ∧ RoomAt wr br f p v' L ∧ Fr Nil w wr)
  case atStart => exact ⟨0, _, _, rfl, by omega, rfl, H1.out.1, H1.out.2⟩
  case round =>
    obtain ⟨j, v', L, rfl, hj, rfl, hR, hw⟩ := hrel
    clear H1
    have HR := Lib.hid (And.intro hR hw)
    have hbl := hR.blk.lt
    clear hR
    by_cases hlt : j < zs.length
    · obtain ⟨b, off, rfl, hcell⟩ := HX.out.1 (by omega)
      obtain ⟨x, hxj⟩ : ∃ x, zs[j]? = some x := ⟨_, List.getElem?_eq_getElem hlt⟩
      obtain ⟨e0, e1, e2⟩ := hcell j x hxj
      have hxw : Hid (IntKind.i64.wrap x.at_ = x.at_) := HX.out.2 x (List.mem_of_getElem? hxj)
      have r0 := hw.cell e0 (by simp [Nil])
      have r1 := hw.cell e1 (by simp [Nil])
      have r2 := hw.cell e2 (by simp [Nil])
      have b1 : (0 : Int) ≤ (j : Int) := by omega
      have b2 : (j : Int) < (zs.length : Int) := by omega
      have hbl2 : b < wr.heap.size := World.block_lt_of_cell? _ _ r0
      clear hcell hxj e0 e1 e2 hw
      go_wp2_with fail
      refine (do_any br f p v' L _ (HR.out.1.fr (S := Nil) (by (repeat (first | (with_reducible exact Fr.refl _ _) | (with_reducible assumption) | (with_reducible exact Fr.of_nil (by assumption)) | (with_reducible refine Fr.drew ?_) | (with_reducible refine Fr.drewN ?_ _) | (with_reducible refine Fr.alloc ?_ _) | (with_reducible refine Fr.set ?_ _ _ (by first | (intros; omega) | (simp; done) | (simp; omega))) | (with_reducible refine Fr.via ?_ (by assumption)) | (with_reducible refine Fr.comp ?_ (by assumption))))) (fun _ _ q => q)) x hxw.out).mono ?_
      rintro e w3 ⟨v3, rfl, h3, g3, f3⟩
      have hw3 : Fr Nil w w3 := (HR.out.2.trans (S' := TS br v') (by first | exact f3 | exact (Fr.refl _ _).comp f3) (fun k hk q => by have := HR.out.1.ge k q; omega))
      obtain ⟨M, hM⟩ : ∃ M, (doR f p x L).2.2 = M := ⟨_, rfl⟩
      rw [hM] at h3
      have H3 := Lib.hid (And.intro h3 hw3)
      clear h3 hw3 g3 f3 hM HR r0 r1 r2
      go_wp2
      go_roundg (zs.length - (j + 1))
      case rel => exact ⟨j + 1, v3, M, rfl, by omega, by go_num, H3.out.1.fr (S := Nil) (by (repeat (first | (with_reducible exact Fr.refl _ _) | (with_reducible assumption) | (with_reducible exact Fr.of_nil (by assumption)) | (with_reducible refine Fr.drew ?_) | (with_reducible refine Fr.drewN ?_ _) | (with_reducible refine Fr.alloc ?_ _) | (with_reducible refine Fr.set ?_ _ _ (by first | (intros; omega) | (simp; done) | (simp; omega))) | (with_reducible refine Fr.via ?_ (by assumption)) | (with_reducible refine Fr.comp ?_ (by assumption))))) (fun _ _ q => q), H3.out.2.trans (S' := Nil) (by (repeat (first | (with_reducible exact Fr.refl _ _) | (with_reducible assumption) | (with_reducible exact Fr.of_nil (by assumption)) | (with_reducible refine Fr.drew ?_) | (with_reducible refine Fr.drewN ?_ _) | (with_reducible refine Fr.alloc ?_ _) | (with_reducible refine Fr.set ?_ _ _ (by first | (intros; omega) | (simp; done) | (simp; omega))) | (with_reducible refine Fr.via ?_ (by assumption)) | (with_reducible refine Fr.comp ?_ (by assumption))))) (fun _ _ q => q)⟩
      case measure => omega
    · obtain rfl : j = zs.length := by omega
      have i1 : ¬ ((zs.length : Int) < (zs.length : Int)) := by omega
      clear HX hw
      go_wp2_with fail
      refine (list_any br f p v' L _ HR.out.1).mono ?_
      rintro e w4 ⟨v4, rfl, h4, f4⟩
      obtain ⟨a4, c4, rfl⟩ := h4.shape
      have hlen := HR.out.1.len
      have wl : IntKind.i64.wrap ((L.length : Int) - 1) = (L.length : Int) - 1 := by rw [IntKind.wrap_i64]; omega
      have hb4 : br < w4.heap.size := Nat.lt_of_lt_of_le hbl f4.size
      have H4 := Lib.hid (And.intro h4 f4)
      clear h4 f4
      go_wp2_with fail
      go_loopg [13, 14] L.length (fun g sv iv wq => ∃ (k : Nat) (m : Int), g = k ∧ k ≤ L.length ∧ iv = .int .i64 m ∧ m + 1 = (k : Int) ∧ sv = .int .i64 (wantI n (L.drop k)) ∧ Fr Nil w4 wq)
      case atStart => exact ⟨L.length, _, rfl, by omega, rfl, by omega, by rw [List.drop_length, wantI_nil], Fr.refl _ _⟩
      case round =>
        obtain ⟨k, m, hgk, hk, rfl, hm, rfl, hq⟩ := hrel
        obtain rfl := hgk.symm
        rcases Nat.eq_zero_or_pos k with rfl | hkp
        · obtain rfl : m = -1 := by omega
          have H5 := Lib.hid (HR.out.1.fr (H4.out.2.comp hq) (fun _ _ q => q))
          have H6 := Lib.hid (HR.out.2.comp (H4.out.2.comp hq))
          rw [List.drop_zero]
          clear hq hm
          go_wp2_with fail
          refine (free_any br f p v' L _ H5.out).mono ?_
          rintro e w6 ⟨rfl, f6⟩
          have hsum : f + sumL L ≤ f + p := can_sum HR.out.1.can (by omega)
          cases ht : takeL n L with
          | none =>
            have hwt : wantI n L = -1 := by unfold wantI; rw [ht]
            rw [hwt]
            go_wp2_with fail
            refine (take_full br f p v' L _ (H5.out.fr (S := Nil) (by (repeat (first | (with_reducible exact Fr.refl _ _) | (with_reducible assumption) | (with_reducible exact Fr.of_nil (by assumption)) | (with_reducible refine Fr.drew ?_) | (with_reducible refine Fr.drewN ?_ _) | (with_reducible refine Fr.alloc ?_ _) | (with_reducible refine Fr.set ?_ _ _ (by first | (intros; omega) | (simp; done) | (simp; omega))) | (with_reducible refine Fr.via ?_ (by assumption)) | (with_reducible refine Fr.comp ?_ (by assumption))))) (fun _ _ q => q)) n hn1 ht).mono ?_
            rintro e w7 ⟨rfl, f7⟩
            clear ht hwt
            go_wp2_with fail
            refine (free_any br f p v' L _ (H5.out.fr (S := Nil) (by (repeat (first | (with_reducible exact Fr.refl _ _) | (with_reducible assumption) | (with_reducible exact Fr.of_nil (by assumption)) | (with_reducible refine Fr.drew ?_) | (with_reducible refine Fr.drewN ?_ _) | (with_reducible refine Fr.alloc ?_ _) | (with_reducible refine Fr.set ?_ _ _ (by first | (intros; omega) | (simp; done) | (simp; omega))) | (with_reducible refine Fr.via ?_ (by assumption)) | (with_reducible refine Fr.comp ?_ (by assumption))))) (fun _ _ q => q))).mono ?_
            rintro e w8 ⟨rfl, f8⟩
            go_wp2
            go_ret
            exact ⟨by first | rfl | simp, H6.out.trans (S' := Nil) (by (repeat (first | (with_reducible exact Fr.refl _ _) | (with_reducible assumption) | (with_reducible exact Fr.of_nil (by assumption)) | (with_reducible refine Fr.drew ?_) | (with_reducible refine Fr.drewN ?_ _) | (with_reducible refine Fr.alloc ?_ _) | (with_reducible refine Fr.set ?_ _ _ (by first | (intros; omega) | (simp; done) | (simp; omega))) | (with_reducible refine Fr.via ?_ (by assumption)) | (with_reducible refine Fr.comp ?_ (by assumption))))) (fun _ _ q => q)⟩
          | some r =>
            obtain ⟨at_, M⟩ := r
            have hwt : wantI n L = (at_ : Int) := by unfold wantI; rw [ht]
            obtain ⟨_, _, g3, _, _, _, _⟩ := takeL_can hn1 HR.out.1.can ht
            have ws : IntKind.i64.wrap ((sumL L : Int) - (n : Int)) = (sumL M : Nat) := by rw [IntKind.wrap_i64]; omega
            have d7 : ¬ (at_ : Int) < 0 := by omega
            rw [hwt]
            go_wp2_with fail
            refine (take_some br f p v' L _ (H5.out.fr (S := Nil) (by (repeat (first | (with_reducible exact Fr.refl _ _) | (with_reducible assumption) | (with_reducible exact Fr.of_nil (by assumption)) | (with_reducible refine Fr.drew ?_) | (with_reducible refine Fr.drewN ?_ _) | (with_reducible refine Fr.alloc ?_ _) | (with_reducible refine Fr.set ?_ _ _ (by first | (intros; omega) | (simp; done) | (simp; omega))) | (with_reducible refine Fr.via ?_ (by assumption)) | (with_reducible refine Fr.comp ?_ (by assumption))))) (fun _ _ q => q)) n hn1 at_ M ht).mono ?_
            rintro e w7 ⟨v7, rfl, h7, o7, f7⟩
            have hw7 : Fr Nil w w7 := H6.out.trans (S' := TS br v') ((show Fr Nil wr w6 from f6).of_nil.comp f7) (fun k hk q => by have := HR.out.1.ge k q; omega)
            have H7 := Lib.hid (And.intro h7 hw7)
            clear ht hwt h7 o7 f7 hw7 g3
            go_wp2_with fail
            refine (free_any br f p v7 M _ H7.out.1).mono ?_
            rintro e w8 ⟨rfl, f8⟩
            go_wp2
            go_ret
            exact ⟨by first | rfl | simp, H7.out.2.trans (S' := Nil) (by (repeat (first | (with_reducible exact Fr.refl _ _) | (with_reducible assumption) | (with_reducible exact Fr.of_nil (by assumption)) | (with_reducible refine Fr.drew ?_) | (with_reducible refine Fr.drewN ?_ _) | (with_reducible refine Fr.alloc ?_ _) | (with_reducible refine Fr.set ?_ _ _ (by first | (intros; omega) | (simp; done) | (simp; omega))) | (with_reducible refine Fr.via ?_ (by assumption)) | (with_reducible refine Fr.comp ?_ (by assumption))))) (fun _ _ q => q)⟩
        · obtain ⟨i, rfl⟩ : ∃ i, k = i + 1 := ⟨k - 1, by omega⟩
          obtain rfl : m = (i : Int) := by omega
          have hkl : i < L.length := by omega
          obtain ⟨g5, d5', e5⟩ := H4.out.1.form (by omega)
          injection e5 with e5 _ e5'
          subst e5 e5'
          obtain ⟨p0, p1⟩ := pair_cell (H4.out.1.fr hq) rfl i hkl
          have i0 : (0 : Int) ≤ (i : Int) := by omega
          have i1 : (i : Int) < (L.length : Int) := by omega
          have lt5 : g5 < wr.heap.size := World.block_lt_of_cell? wr _ p0
          have hst := wantI_drop n hkl
          obtain ⟨x1, ex1⟩ : ∃ x1, L[i].1 = x1 := ⟨_, rfl⟩
          obtain ⟨x2, ex2⟩ : ∃ x2, L[i].2 = x2 := ⟨_, rfl⟩
          rw [ex1] at p0
          rw [ex2] at p1
          rw [ex1, ex2] at hst
          have wi : IntKind.i64.wrap ((i : Int) - 1) = (i : Int) - 1 := by rw [IntKind.wrap_i64]; omega
          by_cases c : n ≤ x2
          · rw [if_pos c] at hst
            have t1 : (n : Int) ≤ (x2 : Int) := by omega
            have HS := Lib.hid hst
            clear hst ex1 ex2 hm
            go_wp2
            go_roundg i
            case rel => exact ⟨i, _, rfl, by omega, rfl, by first | omega | (rw [← IntKind.wrap_i64, wi]; omega), by rw [HS.out], by (repeat (first | (with_reducible exact Fr.refl _ _) | (with_reducible assumption) | (with_reducible exact Fr.of_nil (by assumption)) | (with_reducible refine Fr.drew ?_) | (with_reducible refine Fr.drewN ?_ _) | (with_reducible refine Fr.alloc ?_ _) | (with_reducible refine Fr.set ?_ _ _ (by first | (intros; omega) | (simp; done) | (simp; omega))) | (with_reducible refine Fr.via ?_ (by assumption)) | (with_reducible refine Fr.comp ?_ (by assumption))))⟩
            case measure => omega
          · rw [if_neg c] at hst
            have t1 : ¬ (n : Int) ≤ (x2 : Int) := by omega
            have HS := Lib.hid hst
            clear hst ex1 ex2 hm
            go_wp2
            go_roundg i
            case rel => exact ⟨i, _, rfl, by omega, rfl, by first | omega | (rw [← IntKind.wrap_i64, wi]; omega), by rw [HS.out], by (repeat (first | (with_reducible exact Fr.refl _ _) | (with_reducible assumption) | (with_reducible exact Fr.of_nil (by assumption)) | (with_reducible refine Fr.drew ?_) | (with_reducible refine Fr.drewN ?_ _) | (with_reducible refine Fr.alloc ?_ _) | (with_reducible refine Fr.set ?_ _ _ (by first | (intros; omega) | (simp; done) | (simp; omega))) | (with_reducible refine Fr.via ?_ (by assumption)) | (with_reducible refine Fr.comp ?_ (by assumption))))⟩
            case measure => omega
theorem fits_any (f p : Int) (v : Value) (zs : List Act3) (n : Int) (w : World) (hv : RowActs w v zs) (hx : ∀ x ∈ zs, IntKind.i64.wrap x.at_ = x.at_) :
    Calls Try.prog 6 #[.int .i64 f, .int .i64 p, v, .int .i64 n] w fun e w' => e = .returned (.bool true) ∧ Fr Nil w w' := by
  by_cases ho : OutE f p zs.length n
  · exact fits_out f p v zs n w hv ho
  · unfold OutE at ho
    obtain ⟨f, rfl⟩ := Int.eq_ofNat_of_zero_le (by omega : 0 ≤ f)
    obtain ⟨p, rfl⟩ := Int.eq_ofNat_of_zero_le (by omega : 0 ≤ p)
    obtain ⟨n, rfl⟩ := Int.eq_ofNat_of_zero_le (by omega : 0 ≤ n)
    exact fits_in f p (by omega) (by omega) v zs n (by omega) w hv (by omega) hx
end Go.Proofs.Ytjcnbfiholcjkaa
