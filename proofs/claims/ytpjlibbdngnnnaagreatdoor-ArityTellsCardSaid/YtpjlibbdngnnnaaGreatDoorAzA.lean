/-
  The document's arity (layer 11): the first fault kept; a constructor's count; how many kids an operation takes. No conditions.
  The document's arity (layer 11): at binds, at every expression. Conditions: a tree as a source tells it.
-/
import Derived.Test.YtpjlibbdngnnnaaGreatDoorL11z
import Derived.Deep.CutBlock
import Derived.Deep.RegionHeld3
import Derived.BigQuiet
namespace Go.Proofs.YtpjlibbdngnnnaaGreatDoor
set_option linter.unusedSimpArgs false
set_option linter.unusedVariables false
open Go.RowKit

/-- The document's state: the first fault; the constructors. -/
def ZAt (w : World) (ab : Nat) (D : List (List UInt8 × Nat)) (s : FS) : Prop := ∃ cv, Blk w ab #[.int .i64 (s.1 : Int), .string ⟨s.2.toArray⟩, cv] 93 ∧ DeclsAt (fun b => b = ab) w cv D
/-- What count does. -/
def countF : List (List UInt8 × Nat) → List UInt8 → Nat → FS → FS
  | [], _, _, s => s
  | d :: l, n, k, s => countF l n k (if d.1 = n ∧ d.2 ≠ k then fltS s 11 n else s)
theorem countF_app : ∀ (a b : List (List UInt8 × Nat)) (n : List UInt8) (k : Nat) (s : FS), countF (a ++ b) n k s = countF b n k (countF a n k s)
  | [], _, _, _, _ => rfl
  | d :: l, b, n, k, s => countF_app l b n k _
theorem countF_take {D : List (List UInt8 × Nat)} {j : Nat} (h : j < D.length) (n : List UInt8) (k : Nat) (s : FS) : countF (D.take (j + 1)) n k s = if D[j].1 = n ∧ D[j].2 ≠ k then fltS (countF (D.take j) n k s) 11 n else countF (D.take j) n k s := by
  rw [List.take_succ_eq_append_getElem h, countF_app]
  rfl
section
variable {w w' : World} {ab : Nat} {D : List (List UInt8 × Nat)} {s : FS}
theorem ZAt.fr (h : ZAt w ab D s) (f : Fr Nil w w') : ZAt w' ab D s := by
  obtain ⟨cv, h1, h2⟩ := h
  exact ⟨cv, f.blk h1 (fun q => q), RowC.fr h2 f (fun _ q => q.elim)⟩
theorem ZAt.lt (h : ZAt w ab D s) : ab < w.heap.size := by
  obtain ⟨cv, h1, h2⟩ := h
  exact h1.lt
set_option maxRecDepth 100000 in
theorem zfault_any (h : ZAt w ab D s) (e : Nat) (n : List UInt8) :
    Calls Tryz.prog 41 #[.pointer (some ⟨ab, 0, none⟩), .int .i64 (e : Int), .string ⟨n.toArray⟩] w fun r w' => r = .returned (.tuple #[]) ∧ ZAt w' ab D (fltS s e n) ∧ Fr (fun b => b = ab) w w' := by
  obtain ⟨cv, h1, h2⟩ := h
  have c0 := h1.cell 0
  have c1 := h1.cell 1
  simp at c0 c1
  have cf := h1.free
  have cl := h1.lt
  have HB := Lib.hid (And.intro h1 (And.intro h2 (show ZAt w ab D s from ⟨cv, h1, h2⟩)))
  clear h1 h2
  by_cases he : s.1 = 0
  · have e1 : fltS s e n = (e, n) := by unfold fltS; rw [if_pos he]
    rw [e1]
    have d1 : ((s.1 : Int) == 0) = true := by simp [he]
    clear he e1
    go_enter Tryz.func41, Tryz.ntmps41
    go_wp2
    go_end0
    have fz : Fr (fun b => b = ab) w ((w.setCell ⟨ab, 0, none⟩ (.int .i64 (e : Int))).setCell ⟨ab, 1, none⟩ (.string ⟨n.toArray⟩)) := by (repeat (first | (with_reducible exact Fr.refl _ _) | (with_reducible assumption) | (with_reducible exact Fr.of_nil (by assumption)) | (with_reducible refine Fr.drew ?_) | (with_reducible refine Fr.drewN ?_ _) | (with_reducible refine Fr.alloc ?_ _) | (with_reducible refine Fr.set ?_ _ _ (by first | (intro _; exact rfl) | (intro _; exact .inl rfl) | (intro _; exact .inr rfl) | (intro q; exact absurd q (Nat.lt_irrefl _)) | (intro q; simp at q; omega))) | (with_reducible refine Fr.via ?_ (by assumption)) | (with_reducible refine Fr.comp ?_ (by assumption))))
    refine ⟨rfl, ⟨cv, ?_, RowC.fr HB.out.2.1 fz (fun b q => q)⟩, fz⟩
    (unfold Blk; simp (disch := first | omega | (simp; done) | (simp; omega)) only [hp_drew, hp_drewN, hp_alloc, hp_other, hp_same, hp_new, upd_cells, Option.map_some, (HB.out.1).eq])
    simp
  · have e1 : fltS s e n = s := by unfold fltS; rw [if_neg he]
    rw [e1]
    have d1 : ((s.1 : Int) == 0) = false := beq_false_of_ne (by omega)
    clear he e1
    go_enter Tryz.func41, Tryz.ntmps41
    go_wp2
    go_end0
    exact ⟨rfl, HB.out.2.2.fr (by (repeat (first | (with_reducible exact Fr.refl _ _) | (with_reducible assumption) | (with_reducible exact Fr.of_nil (by assumption)) | (with_reducible refine Fr.drew ?_) | (with_reducible refine Fr.drewN ?_ _) | (with_reducible refine Fr.alloc ?_ _) | (with_reducible refine Fr.set ?_ _ _ (by first | (intros; omega) | (simp; done) | (simp; omega))) | (with_reducible refine Fr.via ?_ (by assumption)) | (with_reducible refine Fr.comp ?_ (by assumption))))), by (repeat (first | (with_reducible exact Fr.refl _ _) | (with_reducible assumption) | (with_reducible exact Fr.of_nil (by assumption)) | (with_reducible refine Fr.drew ?_) | (with_reducible refine Fr.drewN ?_ _) | (with_reducible refine Fr.alloc ?_ _) | (with_reducible refine Fr.set ?_ _ _ (by first | (intro _; exact rfl) | (intro _; exact .inl rfl) | (intro _; exact .inr rfl) | (intro q; exact absurd q (Nat.lt_irrefl _)) | (intro q; simp at q; omega))) | (with_reducible refine Fr.via ?_ (by assumption)) | (with_reducible refine Fr.comp ?_ (by assumption))))⟩
set_option maxRecDepth 100000 in
set_option maxHeartbeats 4000000 in
theorem zcount_any (h : ZAt w ab D s) (hD : D.length ≤ 900000) (n : List UInt8) (k : Nat) :
    Calls Tryz.prog 122 #[.pointer (some ⟨ab, 0, none⟩), .string ⟨n.toArray⟩, .int .i64 (k : Int)] w fun r w' => r = .returned (.tuple #[]) ∧ ZAt w' ab D (countF D n k s) ∧ Fr (fun b => b = ab) w w' := by
  obtain ⟨nd, hnd⟩ : ∃ nd, D.length = nd := ⟨_, rfl⟩
  have H0 := Lib.hid (And.intro h hnd)
  rw [hnd] at hD
  clear h hnd
  go_enter Tryz.func122, Tryz.ntmps122
  go_wp2_with fail
  go_loopg [6] nd (fun g iv wr => ∃ j : Nat, g = nd - j ∧ j ≤ nd ∧ iv = .int .i64 (j : Int) ∧ Hid (ZAt wr ab D (countF (D.take j) n k s) ∧ Fr (fun b => b = ab) w wr))
  case atStart => exact ⟨0, rfl, by omega, rfl, Lib.hid ⟨H0.out.1, Fr.refl _ _⟩⟩
  case round =>
    obtain ⟨kk, rfl, hk, rfl, HS⟩ := hrel
    obtain ⟨Vr, hVr⟩ : ∃ V, V = wr := ⟨_, rfl⟩
    subst hVr
    have j0 : (0 : Int) ≤ (kk : Int) := by omega
    obtain ⟨cv, hb, hd⟩ := HS.out.1
    obtain ⟨da, dc, rfl⟩ := RowC.shape hd
    rw [H0.out.2] at hb hd
    have c2 := hb.cell 2
    simp at c2
    have cl := hb.lt
    by_cases hlt : kk < nd
    · have hkL : kk < D.length := by rw [H0.out.2]; exact hlt
      have wkk : IntKind.i64.wrap ((kk : Int) + 1) = (kk : Int) + 1 := by rw [IntKind.wrap_i64]; omega
      have j1 : (kk : Int) < (nd : Int) := by omega
      obtain ⟨b, off, rfl, hbx, p0, p1⟩ := DeclsAt.cell hd kk hkL
      obtain ⟨x, hx⟩ : ∃ x, D[kk].1 = x := ⟨_, rfl⟩
      obtain ⟨y, hy⟩ : ∃ y, D[kk].2 = y := ⟨_, rfl⟩
      rw [hx] at p0
      rw [hy] at p1
      have hct := countF_take hkL n k s
      rw [hx, hy] at hct
      have hbl : b < Vr.heap.size := World.block_lt_of_cell? _ _ p0
      clear hx hy hb hd
      by_cases hxn : x = n
      · subst hxn
        by_cases hyk : y = k
        · subst hyk
          rw [if_neg (fun q => q.2 rfl)] at hct
          have HT := Lib.hid hct
          clear hct
          go_wp2
          go_roundg (nd - (kk + 1))
          case rel => exact ⟨kk + 1, rfl, by omega, by simp, Lib.hid ⟨by rw [HT.out]; exact HS.out.1.fr (by (repeat (first | (with_reducible exact Fr.refl _ _) | (with_reducible assumption) | (with_reducible exact Fr.of_nil (by assumption)) | (with_reducible refine Fr.drew ?_) | (with_reducible refine Fr.drewN ?_ _) | (with_reducible refine Fr.alloc ?_ _) | (with_reducible refine Fr.set ?_ _ _ (by first | (intros; omega) | (simp; done) | (simp; omega))) | (with_reducible refine Fr.via ?_ (by assumption)) | (with_reducible refine Fr.comp ?_ (by assumption))))), HS.out.2.comp (Fr.of_nil (by (repeat (first | (with_reducible exact Fr.refl _ _) | (with_reducible assumption) | (with_reducible exact Fr.of_nil (by assumption)) | (with_reducible refine Fr.drew ?_) | (with_reducible refine Fr.drewN ?_ _) | (with_reducible refine Fr.alloc ?_ _) | (with_reducible refine Fr.set ?_ _ _ (by first | (intros; omega) | (simp; done) | (simp; omega))) | (with_reducible refine Fr.via ?_ (by assumption)) | (with_reducible refine Fr.comp ?_ (by assumption))))))⟩⟩
          case measure => omega
        · rw [if_pos ⟨rfl, hyk⟩] at hct
          have HT := Lib.hid hct
          have d1 : ((y : Int) == (k : Int)) = false := by rw [beq_eq_false_iff_ne]; omega
          have e1 : ¬ (y : Int) = (k : Int) := by omega
          have HF := Lib.hid (fun w' (f : Fr Nil Vr w') => zfault_any (HS.out.1.fr f) 11 x)
          clear hct hyk
          go_wp2_with fail
          refine (HF.out _ (by (repeat (first | (with_reducible exact Fr.refl _ _) | (with_reducible assumption) | (with_reducible exact Fr.of_nil (by assumption)) | (with_reducible refine Fr.drew ?_) | (with_reducible refine Fr.drewN ?_ _) | (with_reducible refine Fr.alloc ?_ _) | (with_reducible refine Fr.set ?_ _ _ (by first | (intros; omega) | (simp; done) | (simp; omega))) | (with_reducible refine Fr.via ?_ (by assumption)) | (with_reducible refine Fr.comp ?_ (by assumption)))))).mono ?_
          rintro e w3 ⟨rfl, h3, f3⟩
          have H3 := Lib.hid (And.intro h3 (Fr.comp (S := fun b => b = ab) (Fr.of_nil (by (repeat (first | (with_reducible exact Fr.refl _ _) | (with_reducible assumption) | (with_reducible exact Fr.of_nil (by assumption)) | (with_reducible refine Fr.drew ?_) | (with_reducible refine Fr.drewN ?_ _) | (with_reducible refine Fr.alloc ?_ _) | (with_reducible refine Fr.set ?_ _ _ (by first | (intros; omega) | (simp; done) | (simp; omega))) | (with_reducible refine Fr.via ?_ (by assumption)) | (with_reducible refine Fr.comp ?_ (by assumption)))))) f3 : Fr (fun b => b = ab) Vr w3))
          clear h3 f3
          go_wp2
          go_roundg (nd - (kk + 1))
          case rel => exact ⟨kk + 1, rfl, by omega, by simp, Lib.hid ⟨by rw [HT.out]; exact H3.out.1, HS.out.2.comp H3.out.2⟩⟩
          case measure => omega
      · rw [if_neg (fun q => hxn q.1)] at hct
        have HT := Lib.hid hct
        have d1 : (x == n) = false := by simpa using hxn
        clear hct hxn
        go_wp2
        go_roundg (nd - (kk + 1))
        case rel => exact ⟨kk + 1, rfl, by omega, by simp, Lib.hid ⟨by rw [HT.out]; exact HS.out.1.fr (by (repeat (first | (with_reducible exact Fr.refl _ _) | (with_reducible assumption) | (with_reducible exact Fr.of_nil (by assumption)) | (with_reducible refine Fr.drew ?_) | (with_reducible refine Fr.drewN ?_ _) | (with_reducible refine Fr.alloc ?_ _) | (with_reducible refine Fr.set ?_ _ _ (by first | (intros; omega) | (simp; done) | (simp; omega))) | (with_reducible refine Fr.via ?_ (by assumption)) | (with_reducible refine Fr.comp ?_ (by assumption))))), HS.out.2.comp (Fr.of_nil (by (repeat (first | (with_reducible exact Fr.refl _ _) | (with_reducible assumption) | (with_reducible exact Fr.of_nil (by assumption)) | (with_reducible refine Fr.drew ?_) | (with_reducible refine Fr.drewN ?_ _) | (with_reducible refine Fr.alloc ?_ _) | (with_reducible refine Fr.set ?_ _ _ (by first | (intros; omega) | (simp; done) | (simp; omega))) | (with_reducible refine Fr.via ?_ (by assumption)) | (with_reducible refine Fr.comp ?_ (by assumption))))))⟩⟩
        case measure => omega
    · have j1 : ¬ (kk : Int) < (nd : Int) := by omega
      obtain rfl : nd = kk := by omega
      have HS1 : Hid (ZAt Vr ab D (countF D n k s)) := Lib.hid (by
        have h := HS.out.1
        rw [List.take_of_length_le (by rw [H0.out.2]; exact Nat.le_refl _)] at h
        exact h)
      clear hb hd
      go_wp2
      go_end0
      exact ⟨rfl, HS1.out.fr (by (repeat (first | (with_reducible exact Fr.refl _ _) | (with_reducible assumption) | (with_reducible exact Fr.of_nil (by assumption)) | (with_reducible refine Fr.drew ?_) | (with_reducible refine Fr.drewN ?_ _) | (with_reducible refine Fr.alloc ?_ _) | (with_reducible refine Fr.set ?_ _ _ (by first | (intros; omega) | (simp; done) | (simp; omega))) | (with_reducible refine Fr.via ?_ (by assumption)) | (with_reducible refine Fr.comp ?_ (by assumption))))), HS.out.2.comp (Fr.of_nil (by (repeat (first | (with_reducible exact Fr.refl _ _) | (with_reducible assumption) | (with_reducible exact Fr.of_nil (by assumption)) | (with_reducible refine Fr.drew ?_) | (with_reducible refine Fr.drewN ?_ _) | (with_reducible refine Fr.alloc ?_ _) | (with_reducible refine Fr.set ?_ _ _ (by first | (intros; omega) | (simp; done) | (simp; omega))) | (with_reducible refine Fr.via ?_ (by assumption)) | (with_reducible refine Fr.comp ?_ (by assumption))))))⟩
end

set_option maxRecDepth 100000 in
set_option maxHeartbeats 4000000 in
theorem ztakes_any (n : List UInt8) (w : World) :
    Calls Tryz.prog 14 #[.string ⟨n.toArray⟩] w fun e w' => e = .returned (.int .i64 (takesF n)) ∧ Fr Nil w w' := by
  by_cases h0 : n = [119, 101, 97, 107]
  · subst h0
    rw [show takesF [119, 101, 97, 107] = 3 from by kernel_rfl]
    go_enter Tryz.func14, Tryz.ntmps14
    go_wp2
    go_ret
    exact ⟨rfl, by (repeat (first | (with_reducible exact Fr.refl _ _) | (with_reducible assumption) | (with_reducible exact Fr.of_nil (by assumption)) | (with_reducible refine Fr.drew ?_) | (with_reducible refine Fr.drewN ?_ _) | (with_reducible refine Fr.alloc ?_ _) | (with_reducible refine Fr.set ?_ _ _ (by first | (intros; omega) | (simp; done) | (simp; omega))) | (with_reducible refine Fr.via ?_ (by assumption)) | (with_reducible refine Fr.comp ?_ (by assumption))))⟩
  by_cases h1 : n = [100, 101, 114, 101, 102]
  · subst h1
    rw [show takesF [100, 101, 114, 101, 102] = 1 from by kernel_rfl]
    go_enter Tryz.func14, Tryz.ntmps14
    go_wp2
    go_ret
    exact ⟨rfl, by (repeat (first | (with_reducible exact Fr.refl _ _) | (with_reducible assumption) | (with_reducible exact Fr.of_nil (by assumption)) | (with_reducible refine Fr.drew ?_) | (with_reducible refine Fr.drewN ?_ _) | (with_reducible refine Fr.alloc ?_ _) | (with_reducible refine Fr.set ?_ _ _ (by first | (intros; omega) | (simp; done) | (simp; omega))) | (with_reducible refine Fr.via ?_ (by assumption)) | (with_reducible refine Fr.comp ?_ (by assumption))))⟩
  by_cases h2 : n = [102, 108, 111, 97, 116]
  · subst h2
    rw [show takesF [102, 108, 111, 97, 116] = 1 from by kernel_rfl]
    go_enter Tryz.func14, Tryz.ntmps14
    go_wp2
    go_ret
    exact ⟨rfl, by (repeat (first | (with_reducible exact Fr.refl _ _) | (with_reducible assumption) | (with_reducible exact Fr.of_nil (by assumption)) | (with_reducible refine Fr.drew ?_) | (with_reducible refine Fr.drewN ?_ _) | (with_reducible refine Fr.alloc ?_ _) | (with_reducible refine Fr.set ?_ _ _ (by first | (intros; omega) | (simp; done) | (simp; omega))) | (with_reducible refine Fr.via ?_ (by assumption)) | (with_reducible refine Fr.comp ?_ (by assumption))))⟩
  by_cases h3 : n = [116, 114, 117, 110, 99]
  · subst h3
    rw [show takesF [116, 114, 117, 110, 99] = 1 from by kernel_rfl]
    go_enter Tryz.func14, Tryz.ntmps14
    go_wp2
    go_ret
    exact ⟨rfl, by (repeat (first | (with_reducible exact Fr.refl _ _) | (with_reducible assumption) | (with_reducible exact Fr.of_nil (by assumption)) | (with_reducible refine Fr.drew ?_) | (with_reducible refine Fr.drewN ?_ _) | (with_reducible refine Fr.alloc ?_ _) | (with_reducible refine Fr.set ?_ _ _ (by first | (intros; omega) | (simp; done) | (simp; omega))) | (with_reducible refine Fr.via ?_ (by assumption)) | (with_reducible refine Fr.comp ?_ (by assumption))))⟩
  by_cases h4 : n = [115, 101, 113]
  · subst h4
    rw [show takesF [115, 101, 113] = 2 from by kernel_rfl]
    go_enter Tryz.func14, Tryz.ntmps14
    go_wp2
    go_ret
    exact ⟨rfl, by (repeat (first | (with_reducible exact Fr.refl _ _) | (with_reducible assumption) | (with_reducible exact Fr.of_nil (by assumption)) | (with_reducible refine Fr.drew ?_) | (with_reducible refine Fr.drewN ?_ _) | (with_reducible refine Fr.alloc ?_ _) | (with_reducible refine Fr.set ?_ _ _ (by first | (intros; omega) | (simp; done) | (simp; omega))) | (with_reducible refine Fr.via ?_ (by assumption)) | (with_reducible refine Fr.comp ?_ (by assumption))))⟩
  by_cases h5 : n = [43]
  · subst h5
    rw [show takesF [43] = 2 from by kernel_rfl]
    go_enter Tryz.func14, Tryz.ntmps14
    go_wp2
    go_ret
    exact ⟨rfl, by (repeat (first | (with_reducible exact Fr.refl _ _) | (with_reducible assumption) | (with_reducible exact Fr.of_nil (by assumption)) | (with_reducible refine Fr.drew ?_) | (with_reducible refine Fr.drewN ?_ _) | (with_reducible refine Fr.alloc ?_ _) | (with_reducible refine Fr.set ?_ _ _ (by first | (intros; omega) | (simp; done) | (simp; omega))) | (with_reducible refine Fr.via ?_ (by assumption)) | (with_reducible refine Fr.comp ?_ (by assumption))))⟩
  by_cases h6 : n = [45]
  · subst h6
    rw [show takesF [45] = 2 from by kernel_rfl]
    go_enter Tryz.func14, Tryz.ntmps14
    go_wp2
    go_ret
    exact ⟨rfl, by (repeat (first | (with_reducible exact Fr.refl _ _) | (with_reducible assumption) | (with_reducible exact Fr.of_nil (by assumption)) | (with_reducible refine Fr.drew ?_) | (with_reducible refine Fr.drewN ?_ _) | (with_reducible refine Fr.alloc ?_ _) | (with_reducible refine Fr.set ?_ _ _ (by first | (intros; omega) | (simp; done) | (simp; omega))) | (with_reducible refine Fr.via ?_ (by assumption)) | (with_reducible refine Fr.comp ?_ (by assumption))))⟩
  by_cases h7 : n = [42]
  · subst h7
    rw [show takesF [42] = 2 from by kernel_rfl]
    go_enter Tryz.func14, Tryz.ntmps14
    go_wp2
    go_ret
    exact ⟨rfl, by (repeat (first | (with_reducible exact Fr.refl _ _) | (with_reducible assumption) | (with_reducible exact Fr.of_nil (by assumption)) | (with_reducible refine Fr.drew ?_) | (with_reducible refine Fr.drewN ?_ _) | (with_reducible refine Fr.alloc ?_ _) | (with_reducible refine Fr.set ?_ _ _ (by first | (intros; omega) | (simp; done) | (simp; omega))) | (with_reducible refine Fr.via ?_ (by assumption)) | (with_reducible refine Fr.comp ?_ (by assumption))))⟩
  by_cases h8 : n = [47]
  · subst h8
    rw [show takesF [47] = 2 from by kernel_rfl]
    go_enter Tryz.func14, Tryz.ntmps14
    go_wp2
    go_ret
    exact ⟨rfl, by (repeat (first | (with_reducible exact Fr.refl _ _) | (with_reducible assumption) | (with_reducible exact Fr.of_nil (by assumption)) | (with_reducible refine Fr.drew ?_) | (with_reducible refine Fr.drewN ?_ _) | (with_reducible refine Fr.alloc ?_ _) | (with_reducible refine Fr.set ?_ _ _ (by first | (intros; omega) | (simp; done) | (simp; omega))) | (with_reducible refine Fr.via ?_ (by assumption)) | (with_reducible refine Fr.comp ?_ (by assumption))))⟩
  by_cases h9 : n = [37]
  · subst h9
    rw [show takesF [37] = 2 from by kernel_rfl]
    go_enter Tryz.func14, Tryz.ntmps14
    go_wp2
    go_ret
    exact ⟨rfl, by (repeat (first | (with_reducible exact Fr.refl _ _) | (with_reducible assumption) | (with_reducible exact Fr.of_nil (by assumption)) | (with_reducible refine Fr.drew ?_) | (with_reducible refine Fr.drewN ?_ _) | (with_reducible refine Fr.alloc ?_ _) | (with_reducible refine Fr.set ?_ _ _ (by first | (intros; omega) | (simp; done) | (simp; omega))) | (with_reducible refine Fr.via ?_ (by assumption)) | (with_reducible refine Fr.comp ?_ (by assumption))))⟩
  by_cases h10 : n = [61, 61]
  · subst h10
    rw [show takesF [61, 61] = 2 from by kernel_rfl]
    go_enter Tryz.func14, Tryz.ntmps14
    go_wp2
    go_ret
    exact ⟨rfl, by (repeat (first | (with_reducible exact Fr.refl _ _) | (with_reducible assumption) | (with_reducible exact Fr.of_nil (by assumption)) | (with_reducible refine Fr.drew ?_) | (with_reducible refine Fr.drewN ?_ _) | (with_reducible refine Fr.alloc ?_ _) | (with_reducible refine Fr.set ?_ _ _ (by first | (intros; omega) | (simp; done) | (simp; omega))) | (with_reducible refine Fr.via ?_ (by assumption)) | (with_reducible refine Fr.comp ?_ (by assumption))))⟩
  by_cases h11 : n = [60]
  · subst h11
    rw [show takesF [60] = 2 from by kernel_rfl]
    go_enter Tryz.func14, Tryz.ntmps14
    go_wp2
    go_ret
    exact ⟨rfl, by (repeat (first | (with_reducible exact Fr.refl _ _) | (with_reducible assumption) | (with_reducible exact Fr.of_nil (by assumption)) | (with_reducible refine Fr.drew ?_) | (with_reducible refine Fr.drewN ?_ _) | (with_reducible refine Fr.alloc ?_ _) | (with_reducible refine Fr.set ?_ _ _ (by first | (intros; omega) | (simp; done) | (simp; omega))) | (with_reducible refine Fr.via ?_ (by assumption)) | (with_reducible refine Fr.comp ?_ (by assumption))))⟩
  by_cases h12 : n = [43, 46]
  · subst h12
    rw [show takesF [43, 46] = 2 from by kernel_rfl]
    go_enter Tryz.func14, Tryz.ntmps14
    go_wp2
    go_ret
    exact ⟨rfl, by (repeat (first | (with_reducible exact Fr.refl _ _) | (with_reducible assumption) | (with_reducible exact Fr.of_nil (by assumption)) | (with_reducible refine Fr.drew ?_) | (with_reducible refine Fr.drewN ?_ _) | (with_reducible refine Fr.alloc ?_ _) | (with_reducible refine Fr.set ?_ _ _ (by first | (intros; omega) | (simp; done) | (simp; omega))) | (with_reducible refine Fr.via ?_ (by assumption)) | (with_reducible refine Fr.comp ?_ (by assumption))))⟩
  by_cases h13 : n = [45, 46]
  · subst h13
    rw [show takesF [45, 46] = 2 from by kernel_rfl]
    go_enter Tryz.func14, Tryz.ntmps14
    go_wp2
    go_ret
    exact ⟨rfl, by (repeat (first | (with_reducible exact Fr.refl _ _) | (with_reducible assumption) | (with_reducible exact Fr.of_nil (by assumption)) | (with_reducible refine Fr.drew ?_) | (with_reducible refine Fr.drewN ?_ _) | (with_reducible refine Fr.alloc ?_ _) | (with_reducible refine Fr.set ?_ _ _ (by first | (intros; omega) | (simp; done) | (simp; omega))) | (with_reducible refine Fr.via ?_ (by assumption)) | (with_reducible refine Fr.comp ?_ (by assumption))))⟩
  by_cases h14 : n = [42, 46]
  · subst h14
    rw [show takesF [42, 46] = 2 from by kernel_rfl]
    go_enter Tryz.func14, Tryz.ntmps14
    go_wp2
    go_ret
    exact ⟨rfl, by (repeat (first | (with_reducible exact Fr.refl _ _) | (with_reducible assumption) | (with_reducible exact Fr.of_nil (by assumption)) | (with_reducible refine Fr.drew ?_) | (with_reducible refine Fr.drewN ?_ _) | (with_reducible refine Fr.alloc ?_ _) | (with_reducible refine Fr.set ?_ _ _ (by first | (intros; omega) | (simp; done) | (simp; omega))) | (with_reducible refine Fr.via ?_ (by assumption)) | (with_reducible refine Fr.comp ?_ (by assumption))))⟩
  by_cases h15 : n = [47, 46]
  · subst h15
    rw [show takesF [47, 46] = 2 from by kernel_rfl]
    go_enter Tryz.func14, Tryz.ntmps14
    go_wp2
    go_ret
    exact ⟨rfl, by (repeat (first | (with_reducible exact Fr.refl _ _) | (with_reducible assumption) | (with_reducible exact Fr.of_nil (by assumption)) | (with_reducible refine Fr.drew ?_) | (with_reducible refine Fr.drewN ?_ _) | (with_reducible refine Fr.alloc ?_ _) | (with_reducible refine Fr.set ?_ _ _ (by first | (intros; omega) | (simp; done) | (simp; omega))) | (with_reducible refine Fr.via ?_ (by assumption)) | (with_reducible refine Fr.comp ?_ (by assumption))))⟩
  by_cases h16 : n = [61, 61, 46]
  · subst h16
    rw [show takesF [61, 61, 46] = 2 from by kernel_rfl]
    go_enter Tryz.func14, Tryz.ntmps14
    go_wp2
    go_ret
    exact ⟨rfl, by (repeat (first | (with_reducible exact Fr.refl _ _) | (with_reducible assumption) | (with_reducible exact Fr.of_nil (by assumption)) | (with_reducible refine Fr.drew ?_) | (with_reducible refine Fr.drewN ?_ _) | (with_reducible refine Fr.alloc ?_ _) | (with_reducible refine Fr.set ?_ _ _ (by first | (intros; omega) | (simp; done) | (simp; omega))) | (with_reducible refine Fr.via ?_ (by assumption)) | (with_reducible refine Fr.comp ?_ (by assumption))))⟩
  by_cases h17 : n = [60, 46]
  · subst h17
    rw [show takesF [60, 46] = 2 from by kernel_rfl]
    go_enter Tryz.func14, Tryz.ntmps14
    go_wp2
    go_ret
    exact ⟨rfl, by (repeat (first | (with_reducible exact Fr.refl _ _) | (with_reducible assumption) | (with_reducible exact Fr.of_nil (by assumption)) | (with_reducible refine Fr.drew ?_) | (with_reducible refine Fr.drewN ?_ _) | (with_reducible refine Fr.alloc ?_ _) | (with_reducible refine Fr.set ?_ _ _ (by first | (intros; omega) | (simp; done) | (simp; omega))) | (with_reducible refine Fr.via ?_ (by assumption)) | (with_reducible refine Fr.comp ?_ (by assumption))))⟩
  have hz : takesF n = 0 := by
    unfold takesF askL
    have hn : takeMap.find? (fun p => p.1 == n) = none := by
      rw [List.find?_eq_none]
      intro p hp
      simp only [beq_iff_eq]
      rintro rfl
      have key : ∀ p ∈ takeMap, p.1 = [119, 101, 97, 107] ∨ p.1 = [100, 101, 114, 101, 102] ∨ p.1 = [102, 108, 111, 97, 116] ∨ p.1 = [116, 114, 117, 110, 99] ∨ p.1 = [115, 101, 113] ∨ p.1 = [43] ∨ p.1 = [45] ∨ p.1 = [42] ∨ p.1 = [47] ∨ p.1 = [37] ∨ p.1 = [61, 61] ∨ p.1 = [60] ∨ p.1 = [43, 46] ∨ p.1 = [45, 46] ∨ p.1 = [42, 46] ∨ p.1 = [47, 46] ∨ p.1 = [61, 61, 46] ∨ p.1 = [60, 46] := by decide
      have q := key p hp
      simp only [h0, h1, h2, h3, h4, h5, h6, h7, h8, h9, h10, h11, h12, h13, h14, h15, h16, h17, or_self] at q
    rw [hn]
    rfl
  rw [hz]
  have d0 : (n == [119, 101, 97, 107]) = false := by simpa using h0
  have d1 : (n == [100, 101, 114, 101, 102]) = false := by simpa using h1
  have d2 : (n == [102, 108, 111, 97, 116]) = false := by simpa using h2
  have d3 : (n == [116, 114, 117, 110, 99]) = false := by simpa using h3
  have d4 : (n == [115, 101, 113]) = false := by simpa using h4
  have d5 : (n == [43]) = false := by simpa using h5
  have d6 : (n == [45]) = false := by simpa using h6
  have d7 : (n == [42]) = false := by simpa using h7
  have d8 : (n == [47]) = false := by simpa using h8
  have d9 : (n == [37]) = false := by simpa using h9
  have d10 : (n == [61, 61]) = false := by simpa using h10
  have d11 : (n == [60]) = false := by simpa using h11
  have d12 : (n == [43, 46]) = false := by simpa using h12
  have d13 : (n == [45, 46]) = false := by simpa using h13
  have d14 : (n == [42, 46]) = false := by simpa using h14
  have d15 : (n == [47, 46]) = false := by simpa using h15
  have d16 : (n == [61, 61, 46]) = false := by simpa using h16
  have d17 : (n == [60, 46]) = false := by simpa using h17
  clear hz h0 h1 h2 h3 h4 h5 h6 h7 h8 h9 h10 h11 h12 h13 h14 h15 h16 h17
  go_enter Tryz.func14, Tryz.ntmps14
  go_wp2
  go_ret
  exact ⟨rfl, by (repeat (first | (with_reducible exact Fr.refl _ _) | (with_reducible assumption) | (with_reducible exact Fr.of_nil (by assumption)) | (with_reducible refine Fr.drew ?_) | (with_reducible refine Fr.drewN ?_ _) | (with_reducible refine Fr.alloc ?_ _) | (with_reducible refine Fr.set ?_ _ _ (by first | (intros; omega) | (simp; done) | (simp; omega))) | (with_reducible refine Fr.via ?_ (by assumption)) | (with_reducible refine Fr.comp ?_ (by assumption))))⟩

end Go.Proofs.YtpjlibbdngnnnaaGreatDoor

namespace Go.Proofs.YtpjlibbdngnnnaaGreatDoor
set_option linter.unusedSimpArgs false
set_option linter.unusedVariables false
open Go.RowKit

section
variable (D : List (List UInt8 × Nat))
/-- What the document asks of an expression itself. -/
def askZ (k : Nat) (n : List UInt8) (ps : List (List UInt8)) (nk : Nat) (s : FS) : FS :=
  if k = 2 then countF D n nk s
  else if k = 5 then askF (decide ((nk : Int) = takesF n)) s 11 n
  else if k = 4 then askF (decide (nk ≤ 25)) s 12 []
  else if k = 8 then askF (decide (ps.length ≤ 24)) s 12 (ps.headD [])
  else s
mutual
def zE : TE → FS → FS
  | .mk k n _ _ ps ks bs al, s => zA al (zK ks (zB bs (askZ D k n ps ks.length s)))
def zK : List TE → FS → FS
  | [], s => s
  | e :: l, s => zK l (zE e s)
def zB : List TB → FS → FS
  | [], s => s
  | .mk n p e :: l, s => zB l (zE e (askF (decide (p.length ≤ 24)) s 12 n))
def zA : List TA → FS → FS
  | [], s => s
  | .mk k n _ _ ns e :: l, s => zA l (zE e (if k = 0 then countF D n ns.length s else s))
end
theorem zK_app : ∀ (a b : List TE) (s : FS), zK D (a ++ b) s = zK D b (zK D a s)
  | [], _, _ => by rw [zK]; rfl
  | e :: l, b, s => by
    show zK D (e :: (l ++ b)) s = _
    rw [zK, zK, zK_app l b]
theorem zB_app : ∀ (a b : List TB) (s : FS), zB D (a ++ b) s = zB D b (zB D a s)
  | [], _, _ => by rw [zB]; rfl
  | .mk n p e :: l, b, s => by
    show zB D (.mk n p e :: (l ++ b)) s = _
    rw [zB, zB, zB_app l b]
theorem zA_app : ∀ (a b : List TA) (s : FS), zA D (a ++ b) s = zA D b (zA D a s)
  | [], _, _ => by rw [zA]; rfl
  | .mk k n f b2 p e :: l, b, s => by
    show zA D (.mk k n f b2 p e :: (l ++ b)) s = _
    rw [zA, zA, zA_app l b]
theorem zK_take {ks : List TE} {j : Nat} (h : j < ks.length) (s : FS) : zK D (ks.take (j + 1)) s = zE D ks[j] (zK D (ks.take j) s) := by
  rw [List.take_succ_eq_append_getElem h, zK_app, zK, zK]
/-- What one bind asks. -/
def zB1 (b : TB) (s : FS) : FS := zE D b.body (askF (decide (b.params.length ≤ 24)) s 12 b.name)
theorem zB_take {bs : List TB} {j : Nat} (h : j < bs.length) (s : FS) : zB D (bs.take (j + 1)) s = zB1 D bs[j] (zB D (bs.take j) s) := by
  rw [List.take_succ_eq_append_getElem h, zB_app]
  obtain ⟨n, p, e⟩ := bs[j]
  rw [zB, zB]
  rfl
theorem zA_take {al : List TA} {j : Nat} (h : j < al.length) (s : FS) : zA D (al.take (j + 1)) s = zE D al[j].body (if al[j].kind = 0 then countF D al[j].name al[j].names.length (zA D (al.take j) s) else zA D (al.take j) s) := by
  rw [List.take_succ_eq_append_getElem h, zA_app]
  obtain ⟨k, n, f, b, p, e⟩ := al[j]
  rw [zA, zA]
  rfl
end
section
variable {D : List (List UInt8 × Nat)}
/-- What the document does of an expression. -/
def ZOk (D : List (List UInt8 × Nat)) (e : TE) : Prop := ∀ (w : World) (ab : Nat) (s : FS) (cs : List Value), ZAt w ab D s → EAt (fun b => b = ab) w cs e →
  Calls Tryz.prog 77 #[.pointer (some ⟨ab, 0, none⟩), .agg cs.toArray] w fun r w' => r = .returned (.tuple #[]) ∧ ZAt w' ab D (zE D e s) ∧ Fr (fun b => b = ab) w w'
variable {w : World} {ab : Nat} {s : FS}

set_option maxRecDepth 100000 in
set_option maxHeartbeats 4000000 in
theorem zbind_any {b : TB} {cs : List Value} (hOk : ZOk D b.body) (h : ZAt w ab D s) (hB : BAt (fun q => q = ab) w cs b) :
    Calls Tryz.prog 42 #[.pointer (some ⟨ab, 0, none⟩), .agg cs.toArray] w fun r w' => r = .returned (.tuple #[]) ∧ ZAt w' ab D (zB1 D b s) ∧ Fr (fun q => q = ab) w w' := by
  obtain ⟨bn, pa, pn, pc, k', nm', fl', bi', e0, m0, d0, e1, m1, d1, e2, m2, d2, e3, m3, d3, rfl⟩ := hB.formB
  obtain ⟨hr, hE, etn⟩ := hB.parts
  obtain ⟨x, hx⟩ : ∃ x, b.name = x := ⟨_, rfl⟩
  rw [hx] at etn
  subst etn
  have hpn : b.params.length = pn := by
    obtain ⟨a9, c9, e9, _⟩ := hr
    cases e9
    rfl
  have hv : zB1 D b s = zE D b.body (askF (decide (pn ≤ 24)) s 12 x) := by unfold zB1; rw [hx, hpn]
  rw [hv]
  obtain ⟨ok, hok⟩ : ∃ ok, decide (pn ≤ 24) = ok := ⟨_, rfl⟩
  rw [hok]
  have HOK := Lib.hid hok
  clear hok
  have hcl := h.lt
  have H0 := Lib.hid (And.intro hOk (And.intro h hE))
  obtain ⟨T, hT⟩ : ∃ T, w.heap.size = T := ⟨_, rfl⟩
  have hTc : ab < T := by omega
  clear hOk h hB hr hE hpn hx hv
  go_enter Tryz.func42, Tryz.ntmps42
  go_upto_region 1 with fail
  try rw [hT]
  obtain ⟨W1, hW1⟩ : ∃ W1, w.alloc (.cells #[.string ⟨x.toArray⟩, .slice pa pn pc, .int .i64 (k' : Int), .string nm', .bool fl', .int .u64 (bi' : Int), .slice e0 m0 d0, .slice e1 m1 d1, .slice e2 m2 d2, .slice e3 m3 d3] 52) = W1 := ⟨_, rfl⟩
  rw [hW1]
  have f1 : Fr Nil w W1 := by rw [← hW1]; (repeat (first | (with_reducible exact Fr.refl _ _) | (with_reducible assumption) | (with_reducible exact Fr.of_nil (by assumption)) | (with_reducible refine Fr.drew ?_) | (with_reducible refine Fr.drewN ?_ _) | (with_reducible refine Fr.alloc ?_ _) | (with_reducible refine Fr.set ?_ _ _ (by first | (intros; omega) | (simp; done) | (simp; omega))) | (with_reducible refine Fr.via ?_ (by assumption)) | (with_reducible refine Fr.comp ?_ (by assumption))))
  have b1 : Blk W1 T #[.string ⟨x.toArray⟩, .slice pa pn pc, .int .i64 (k' : Int), .string nm', .bool fl', .int .u64 (bi' : Int), .slice e0 m0 d0, .slice e1 m1 d1, .slice e2 m2 d2, .slice e3 m3 d3] 52 := by rw [← hW1, ← hT]; exact Blk.new _ _ _
  have H1 := Lib.hid (And.intro f1 (And.intro b1 (H0.out.2.1.fr f1)))
  have y0 := b1.cell 0
  have y1 := b1.cell 1
  have y2 := b1.cell 2
  have y3 := b1.cell 3
  have y4 := b1.cell 4
  have y5 := b1.cell 5
  have y6 := b1.cell 6
  have y7 := b1.cell 7
  have y8 := b1.cell 8
  have y9 := b1.cell 9
  simp at y0 y1 y2 y3 y4 y5 y6 y7 y8 y9
  have yl := b1.lt
  clear hW1 f1 b1 hT
  by_cases hp : pn ≤ 24
  · have i1 : ¬ (24 : Int) < (pn : Int) := by omega
    obtain rfl : ok = true := by rw [← HOK.out]; exact decide_eq_true hp
    clear hp HOK
    go_wp2_with fail
    refine (H0.out.1 _ ab _ _ (H1.out.2.2.fr (by (repeat (first | (with_reducible exact Fr.refl _ _) | (with_reducible assumption) | (with_reducible exact Fr.of_nil (by assumption)) | (with_reducible refine Fr.drew ?_) | (with_reducible refine Fr.drewN ?_ _) | (with_reducible refine Fr.alloc ?_ _) | (with_reducible refine Fr.set ?_ _ _ (by first | (intros; omega) | (simp; done) | (simp; omega))) | (with_reducible refine Fr.via ?_ (by assumption)) | (with_reducible refine Fr.comp ?_ (by assumption)))))) (H0.out.2.2.fr (S := Nil) (H1.out.1.comp (by (repeat (first | (with_reducible exact Fr.refl _ _) | (with_reducible assumption) | (with_reducible exact Fr.of_nil (by assumption)) | (with_reducible refine Fr.drew ?_) | (with_reducible refine Fr.drewN ?_ _) | (with_reducible refine Fr.alloc ?_ _) | (with_reducible refine Fr.set ?_ _ _ (by first | (intros; omega) | (simp; done) | (simp; omega))) | (with_reducible refine Fr.via ?_ (by assumption)) | (with_reducible refine Fr.comp ?_ (by assumption)))))) (fun _ q => q.elim))).mono ?_
    rintro e w3 ⟨rfl, h3, f3⟩
    have H3 := Lib.hid (And.intro h3 ((Fr.of_nil H1.out.1).comp (Fr.comp (S := fun q => q = ab) (Fr.of_nil (by (repeat (first | (with_reducible exact Fr.refl _ _) | (with_reducible assumption) | (with_reducible exact Fr.of_nil (by assumption)) | (with_reducible refine Fr.drew ?_) | (with_reducible refine Fr.drewN ?_ _) | (with_reducible refine Fr.alloc ?_ _) | (with_reducible refine Fr.set ?_ _ _ (by first | (intros; omega) | (simp; done) | (simp; omega))) | (with_reducible refine Fr.via ?_ (by assumption)) | (with_reducible refine Fr.comp ?_ (by assumption)))))) f3 : Fr (fun q => q = ab) W1 w3)))
    clear h3 f3
    go_wp2
    go_end0
    exact ⟨rfl, H3.out.1, H3.out.2⟩
  · have i1 : (24 : Int) < (pn : Int) := by omega
    obtain rfl : ok = false := by rw [← HOK.out]; exact decide_eq_false hp
    clear hp HOK
    go_wp2_with fail
    refine (zfault_any (H1.out.2.2.fr (by (repeat (first | (with_reducible exact Fr.refl _ _) | (with_reducible assumption) | (with_reducible exact Fr.of_nil (by assumption)) | (with_reducible refine Fr.drew ?_) | (with_reducible refine Fr.drewN ?_ _) | (with_reducible refine Fr.alloc ?_ _) | (with_reducible refine Fr.set ?_ _ _ (by first | (intros; omega) | (simp; done) | (simp; omega))) | (with_reducible refine Fr.via ?_ (by assumption)) | (with_reducible refine Fr.comp ?_ (by assumption)))))) 12 x).mono ?_
    rintro e w2 ⟨rfl, h2, f2⟩
    have g2 : Fr (fun q => q = ab) W1 w2 := Fr.comp (S := fun q => q = ab) (Fr.of_nil (by (repeat (first | (with_reducible exact Fr.refl _ _) | (with_reducible assumption) | (with_reducible exact Fr.of_nil (by assumption)) | (with_reducible refine Fr.drew ?_) | (with_reducible refine Fr.drewN ?_ _) | (with_reducible refine Fr.alloc ?_ _) | (with_reducible refine Fr.set ?_ _ _ (by first | (intros; omega) | (simp; done) | (simp; omega))) | (with_reducible refine Fr.via ?_ (by assumption)) | (with_reducible refine Fr.comp ?_ (by assumption)))))) f2
    have b2 := g2.blk H1.out.2.1 (fun q => by have q' : T = ab := q; omega)
    have H2 := Lib.hid (And.intro h2 ((Fr.of_nil H1.out.1).comp g2))
    clear h2 f2 g2 y0 y1 y2 y3 y4 y5 y6 y7 y8 y9 yl
    have y0 := b2.cell 0
    have y1 := b2.cell 1
    have y2 := b2.cell 2
    have y3 := b2.cell 3
    have y4 := b2.cell 4
    have y5 := b2.cell 5
    have y6 := b2.cell 6
    have y7 := b2.cell 7
    have y8 := b2.cell 8
    have y9 := b2.cell 9
    simp at y0 y1 y2 y3 y4 y5 y6 y7 y8 y9
    have yl := b2.lt
    clear b2
    go_wp2_with fail
    refine (H0.out.1 _ ab _ _ H2.out.1 (H0.out.2.2.fr H2.out.2 (fun _ q => q))).mono ?_
    rintro e w3 ⟨rfl, h3, f3⟩
    have H3 := Lib.hid (And.intro h3 (H2.out.2.comp f3))
    clear h3 f3
    go_wp2
    go_end0
    exact ⟨rfl, H3.out.1, H3.out.2⟩

set_option maxRecDepth 100000 in
set_option maxHeartbeats 12000000 in
theorem zexpr_any {k : Nat} {nm : List UInt8} {fl : Bool} {bi : Nat} {ps : List (List UInt8)} {ks : List TE} {bs : List TB} {al : List TA} (hD : D.length ≤ 900000) (h8 : k = 8 → ps ≠ []) (hK : ∀ e ∈ ks, ZOk D e) (hB : ∀ b ∈ bs, ZOk D b.body) (hA : ∀ a ∈ al, ZOk D a.body) : ZOk D (.mk k nm fl bi ps ks bs al) := by
  intro w ab s cs h hE
  obtain ⟨a0, c0, a1, c1, a2, c2, a3, c3, kc, bc, ac, rfl, hp, hk, hk2, hb, hb2, ha, ha2⟩ := hE.openedX
  obtain ⟨nk, hnk⟩ : ∃ nk, ks.length = nk := ⟨_, rfl⟩
  obtain ⟨nb, hnb⟩ : ∃ nb, bs.length = nb := ⟨_, rfl⟩
  obtain ⟨na, hna⟩ : ∃ na, al.length = na := ⟨_, rfl⟩
  obtain ⟨np, hnp⟩ : ∃ np, ps.length = np := ⟨_, rfl⟩
  rw [hnk] at hk
  rw [hnb] at hb
  rw [hna] at ha
  rw [hnp] at hp
  rw [hnk, hnb, hna, hnp]
  have hnk9 := hk.lenX
  have hnb9 := hb.lenX
  have hna9 := ha.lenX
  have hv : zE D (.mk k nm fl bi ps ks bs al) s = zA D al (zK D ks (zB D bs (askZ D k nm ps nk s))) := by rw [zE, hnk]
  obtain ⟨s1, hs1⟩ : ∃ s1, askZ D k nm ps nk s = s1 := ⟨_, rfl⟩
  rw [hs1] at hv
  have H0 := Lib.hid (And.intro h (And.intro hp (And.intro hk (And.intro hk2 (And.intro hb (And.intro hb2 (And.intro ha (And.intro ha2 (And.intro hv (And.intro hs1 (And.intro hnk (And.intro hnb (And.intro hna hnp)))))))))))))
  have HO := Lib.hid (And.intro hK (And.intro hB (And.intro hA (And.intro hD h8))))
  have hcl := h.lt
  clear hE h hp hk hk2 hb hb2 ha ha2 hv hs1 hnk hnb hna hnp hK hB hA h8 hD
  obtain ⟨T, hT⟩ : ∃ T, w.heap.size = T := ⟨_, rfl⟩
  go_enter Tryz.func77, Tryz.ntmps77
  go_upto_block 0 with fail
  try rw [hT]
  obtain ⟨W1, hW1⟩ : ∃ W1, w.alloc (.cells #[.int .i64 (k : Int), .string ⟨nm.toArray⟩, .bool fl, .int .u64 (bi : Int), .slice a0 np c0, .slice a1 nk c1, .slice a2 nb c2, .slice a3 na c3] 50) = W1 := ⟨_, rfl⟩
  rw [hW1]
  have f1 : Fr Nil w W1 := by rw [← hW1]; (repeat (first | (with_reducible exact Fr.refl _ _) | (with_reducible assumption) | (with_reducible exact Fr.of_nil (by assumption)) | (with_reducible refine Fr.drew ?_) | (with_reducible refine Fr.drewN ?_ _) | (with_reducible refine Fr.alloc ?_ _) | (with_reducible refine Fr.set ?_ _ _ (by first | (intros; omega) | (simp; done) | (simp; omega))) | (with_reducible refine Fr.via ?_ (by assumption)) | (with_reducible refine Fr.comp ?_ (by assumption))))
  have b1 : Blk W1 T #[.int .i64 (k : Int), .string ⟨nm.toArray⟩, .bool fl, .int .u64 (bi : Int), .slice a0 np c0, .slice a1 nk c1, .slice a2 nb c2, .slice a3 na c3] 50 := by rw [← hW1, ← hT]; exact Blk.new _ _ _
  have hTc : ab < T := by omega
  have H1 := Lib.hid (And.intro f1 (And.intro b1 (H0.out.1.fr f1)))
  have y1 := b1.cell 1
  have y4 := b1.cell 4
  have y5 := b1.cell 5
  simp at y1 y4 y5
  have yl := b1.lt
  clear hW1 f1 b1 hT
  go_cut [] (fun wx => Hid (ZAt wx ab D s1 ∧ Fr (fun b => b = ab) W1 wx))
  case first =>
    have hs1 := H0.out.2.2.2.2.2.2.2.2.2.1
    by_cases k2 : k = 2
    · subst k2
      have hv : countF D nm nk s = s1 := by rw [← hs1]; unfold askZ; rw [if_pos rfl]
      have HV := Lib.hid hv
      clear hs1 hv
      go_wp2_with fail
      refine (zcount_any (H1.out.2.2.fr (by (repeat (first | (with_reducible exact Fr.refl _ _) | (with_reducible assumption) | (with_reducible exact Fr.of_nil (by assumption)) | (with_reducible refine Fr.drew ?_) | (with_reducible refine Fr.drewN ?_ _) | (with_reducible refine Fr.alloc ?_ _) | (with_reducible refine Fr.set ?_ _ _ (by first | (intros; omega) | (simp; done) | (simp; omega))) | (with_reducible refine Fr.via ?_ (by assumption)) | (with_reducible refine Fr.comp ?_ (by assumption)))))) HO.out.2.2.2.1 nm nk).mono ?_
      rintro e w3 ⟨rfl, h3, f3⟩
      rw [HV.out] at h3
      have H3 := Lib.hid (And.intro h3 (Fr.comp (S := fun b => b = ab) (Fr.of_nil (by (repeat (first | (with_reducible exact Fr.refl _ _) | (with_reducible assumption) | (with_reducible exact Fr.of_nil (by assumption)) | (with_reducible refine Fr.drew ?_) | (with_reducible refine Fr.drewN ?_ _) | (with_reducible refine Fr.alloc ?_ _) | (with_reducible refine Fr.set ?_ _ _ (by first | (intros; omega) | (simp; done) | (simp; omega))) | (with_reducible refine Fr.via ?_ (by assumption)) | (with_reducible refine Fr.comp ?_ (by assumption)))))) f3 : Fr (fun b => b = ab) W1 w3))
      clear h3 f3
      go_wp2_with fail
      go_meet
      case rel => exact H3
    by_cases k5 : k = 5
    · subst k5
      have hv : askF (decide ((nk : Int) = takesF nm)) s 11 nm = s1 := by rw [← hs1]; unfold askZ; rw [if_neg (by decide), if_pos rfl]
      have HK : Hid (∀ w', Fr Nil W1 w' → w'.cell? ⟨T, 1, none⟩ = some (.string ⟨nm.toArray⟩) ∧ w'.cell? ⟨T, 5, none⟩ = some (.slice a1 nk c1)) := Lib.hid (fun w' f => by
        have b := f.blk H1.out.2.1 (fun q => q)
        have z1 := b.cell 1
        have z5 := b.cell 5
        simp at z1 z5
        exact ⟨z1, z5⟩)
      by_cases hq : (nk : Int) = takesF nm
      · rw [decide_eq_true hq] at hv
        have hv : s = s1 := hv
        have d1 : ((nk : Int) == takesF nm) = true := by simpa using hq
        have HV := Lib.hid hv
        have HQ := Lib.hid hq
        clear hs1 hv hq y1 y4 y5
        go_upto_region 5 with fail
        go_region_held3 (fun w' => w'.cell? ⟨T, 1, none⟩ = some (.string ⟨nm.toArray⟩) ∧ w'.cell? ⟨T, 5, none⟩ = some (.slice a1 nk c1)) (with_reducible refine HK.out _ ?_; first | assumption | (repeat (first | (with_reducible exact Fr.refl _ _) | (with_reducible assumption) | (with_reducible exact Fr.of_nil (by assumption)) | (with_reducible refine Fr.drew ?_) | (with_reducible refine Fr.drewN ?_ _) | (with_reducible refine Fr.alloc ?_ _) | (with_reducible refine Fr.set ?_ _ _ (by first | (intros; omega) | (simp; done) | (simp; omega))) | (with_reducible refine Fr.via ?_ (by assumption)) | (with_reducible refine Fr.comp ?_ (by assumption))))) (first
          | (go_at_call 14; refine (ztakes_any nm _).mono ?_; rintro r wa ⟨rfl, fa⟩; have ga : Fr Nil W1 wa := Fr.comp (S := Nil) (by first | assumption | (repeat (first | (with_reducible exact Fr.refl _ _) | (with_reducible assumption) | (with_reducible exact Fr.of_nil (by assumption)) | (with_reducible refine Fr.drew ?_) | (with_reducible refine Fr.drewN ?_ _) | (with_reducible refine Fr.alloc ?_ _) | (with_reducible refine Fr.set ?_ _ _ (by first | (intros; omega) | (simp; done) | (simp; omega))) | (with_reducible refine Fr.via ?_ (by assumption)) | (with_reducible refine Fr.comp ?_ (by assumption))))) fa; clear fa; rw [← HQ.out]))
        rename_i hHeld
        clear hHeld
        have H3 : Hid (ZAt wa ab D s1 ∧ Fr (fun b => b = ab) W1 wa) := Lib.hid ⟨by rw [← HV.out]; exact H1.out.2.2.fr ga, Fr.of_nil ga⟩
        clear ga
        go_wp2_with fail
        go_meet
        case rel => exact H3
      · rw [decide_eq_false hq] at hv
        have hv : fltS s 11 nm = s1 := hv
        have d1 : ((nk : Int) == takesF nm) = false := by simpa using hq
        have e1 : ¬ (nk : Int) = takesF nm := hq
        have HV := Lib.hid hv
        clear hs1 hv hq y1 y4 y5
        go_upto_region 5 with fail
        go_region_held3 (fun w' => w'.cell? ⟨T, 1, none⟩ = some (.string ⟨nm.toArray⟩) ∧ w'.cell? ⟨T, 5, none⟩ = some (.slice a1 nk c1)) (with_reducible refine HK.out _ ?_; first | assumption | (repeat (first | (with_reducible exact Fr.refl _ _) | (with_reducible assumption) | (with_reducible exact Fr.of_nil (by assumption)) | (with_reducible refine Fr.drew ?_) | (with_reducible refine Fr.drewN ?_ _) | (with_reducible refine Fr.alloc ?_ _) | (with_reducible refine Fr.set ?_ _ _ (by first | (intros; omega) | (simp; done) | (simp; omega))) | (with_reducible refine Fr.via ?_ (by assumption)) | (with_reducible refine Fr.comp ?_ (by assumption))))) (first
          | (go_at_call 14; refine (ztakes_any nm _).mono ?_; rintro r wa ⟨rfl, fa⟩; have ga : Fr Nil W1 wa := Fr.comp (S := Nil) (by first | assumption | (repeat (first | (with_reducible exact Fr.refl _ _) | (with_reducible assumption) | (with_reducible exact Fr.of_nil (by assumption)) | (with_reducible refine Fr.drew ?_) | (with_reducible refine Fr.drewN ?_ _) | (with_reducible refine Fr.alloc ?_ _) | (with_reducible refine Fr.set ?_ _ _ (by first | (intros; omega) | (simp; done) | (simp; omega))) | (with_reducible refine Fr.via ?_ (by assumption)) | (with_reducible refine Fr.comp ?_ (by assumption))))) fa; clear fa))
        rename_i hHeld
        clear hHeld
        have x1 := (HK.out _ ga).1
        have xl := ga.lt yl
        have HG := Lib.hid (And.intro ga (H1.out.2.2.fr ga))
        clear ga yl
        go_wp2_with fail
        refine (zfault_any (HG.out.2.fr (by (repeat (first | (with_reducible exact Fr.refl _ _) | (with_reducible assumption) | (with_reducible exact Fr.of_nil (by assumption)) | (with_reducible refine Fr.drew ?_) | (with_reducible refine Fr.drewN ?_ _) | (with_reducible refine Fr.alloc ?_ _) | (with_reducible refine Fr.set ?_ _ _ (by first | (intros; omega) | (simp; done) | (simp; omega))) | (with_reducible refine Fr.via ?_ (by assumption)) | (with_reducible refine Fr.comp ?_ (by assumption)))))) 11 nm).mono ?_
        rintro e w3 ⟨rfl, h3, f3⟩
        rw [HV.out] at h3
        have H3 := Lib.hid (And.intro h3 ((Fr.of_nil HG.out.1).comp (Fr.comp (S := fun b => b = ab) (Fr.of_nil (by (repeat (first | (with_reducible exact Fr.refl _ _) | (with_reducible assumption) | (with_reducible exact Fr.of_nil (by assumption)) | (with_reducible refine Fr.drew ?_) | (with_reducible refine Fr.drewN ?_ _) | (with_reducible refine Fr.alloc ?_ _) | (with_reducible refine Fr.set ?_ _ _ (by first | (intros; omega) | (simp; done) | (simp; omega))) | (with_reducible refine Fr.via ?_ (by assumption)) | (with_reducible refine Fr.comp ?_ (by assumption)))))) f3 : Fr (fun b => b = ab) wa w3)))
        clear h3 f3
        go_wp2_with fail
        go_meet
        case rel => exact H3
    by_cases k4 : k = 4
    · subst k4
      have hv : askF (decide (nk ≤ 25)) s 12 [] = s1 := by rw [← hs1]; unfold askZ; rw [if_neg (by decide), if_neg (by decide), if_pos rfl]
      by_cases hq : nk ≤ 25
      · have i1 : ¬ (25 : Int) < (nk : Int) := by omega
        rw [decide_eq_true hq] at hv
        have hv : s = s1 := hv
        have H3 : Hid (∀ w', Fr Nil W1 w' → ZAt w' ab D s1 ∧ Fr (fun b => b = ab) W1 w') := Lib.hid (fun w' f => ⟨by rw [← hv]; exact H1.out.2.2.fr f, Fr.of_nil f⟩)
        clear hs1 hv hq
        go_wp2_with fail
        go_meet
        case rel => exact Lib.hid (H3.out _ (by (repeat (first | (with_reducible exact Fr.refl _ _) | (with_reducible assumption) | (with_reducible exact Fr.of_nil (by assumption)) | (with_reducible refine Fr.drew ?_) | (with_reducible refine Fr.drewN ?_ _) | (with_reducible refine Fr.alloc ?_ _) | (with_reducible refine Fr.set ?_ _ _ (by first | (intros; omega) | (simp; done) | (simp; omega))) | (with_reducible refine Fr.via ?_ (by assumption)) | (with_reducible refine Fr.comp ?_ (by assumption))))))
      · have i1 : (25 : Int) < (nk : Int) := by omega
        rw [decide_eq_false hq] at hv
        have HV := Lib.hid (show fltS s 12 [] = s1 from hv)
        clear hs1 hv hq
        go_wp2_with fail
        refine (zfault_any (H1.out.2.2.fr (by (repeat (first | (with_reducible exact Fr.refl _ _) | (with_reducible assumption) | (with_reducible exact Fr.of_nil (by assumption)) | (with_reducible refine Fr.drew ?_) | (with_reducible refine Fr.drewN ?_ _) | (with_reducible refine Fr.alloc ?_ _) | (with_reducible refine Fr.set ?_ _ _ (by first | (intros; omega) | (simp; done) | (simp; omega))) | (with_reducible refine Fr.via ?_ (by assumption)) | (with_reducible refine Fr.comp ?_ (by assumption)))))) 12 []).mono ?_
        rintro e w3 ⟨rfl, h3, f3⟩
        rw [HV.out] at h3
        have H3 := Lib.hid (And.intro h3 (Fr.comp (S := fun b => b = ab) (Fr.of_nil (by (repeat (first | (with_reducible exact Fr.refl _ _) | (with_reducible assumption) | (with_reducible exact Fr.of_nil (by assumption)) | (with_reducible refine Fr.drew ?_) | (with_reducible refine Fr.drewN ?_ _) | (with_reducible refine Fr.alloc ?_ _) | (with_reducible refine Fr.set ?_ _ _ (by first | (intros; omega) | (simp; done) | (simp; omega))) | (with_reducible refine Fr.via ?_ (by assumption)) | (with_reducible refine Fr.comp ?_ (by assumption)))))) f3 : Fr (fun b => b = ab) W1 w3))
        clear h3 f3
        go_wp2_with fail
        go_meet
        case rel => exact H3
    by_cases k8 : k = 8
    · subst k8
      have hne := HO.out.2.2.2.2 rfl
      have hnp := H0.out.2.2.2.2.2.2.2.2.2.2.2.2.2
      have hp0 : 0 < ps.length := List.length_pos_iff.2 hne
      obtain ⟨pb, po, rfl, hpb, x0⟩ := (RowS.fr H0.out.2.1 H1.out.1 (fun b q => q.elim)).cell 0 hp0
      obtain ⟨x, hx⟩ : ∃ x, ps[0] = x := ⟨_, rfl⟩
      rw [hx] at x0
      have hhd : ps.headD [] = x := by
        cases ps with
        | nil => exact absurd rfl hne
        | cons a l => simpa using hx
      have hv : askF (decide (np ≤ 24)) s 12 x = s1 := by rw [← hs1]; unfold askZ; rw [if_neg (by decide), if_neg (by decide), if_neg (by decide), if_pos rfl, hhd, hnp]
      have i0 : (0 : Int) < (np : Int) := by omega
      have i0n : 0 < np := by omega
      simp only [Nat.add_zero] at x0
      have xl : pb < W1.heap.size := World.block_lt_of_cell? _ _ x0
      by_cases hq : np ≤ 24
      · have i1 : ¬ (24 : Int) < (np : Int) := by omega
        rw [decide_eq_true hq] at hv
        have hv : s = s1 := hv
        have H3 : Hid (∀ w', Fr Nil W1 w' → ZAt w' ab D s1 ∧ Fr (fun b => b = ab) W1 w') := Lib.hid (fun w' f => ⟨by rw [← hv]; exact H1.out.2.2.fr f, Fr.of_nil f⟩)
        clear hs1 hv hq hne hnp hp0 hx hhd
        go_wp2_with fail
        go_meet
        case rel => exact Lib.hid (H3.out _ (by (repeat (first | (with_reducible exact Fr.refl _ _) | (with_reducible assumption) | (with_reducible exact Fr.of_nil (by assumption)) | (with_reducible refine Fr.drew ?_) | (with_reducible refine Fr.drewN ?_ _) | (with_reducible refine Fr.alloc ?_ _) | (with_reducible refine Fr.set ?_ _ _ (by first | (intros; omega) | (simp; done) | (simp; omega))) | (with_reducible refine Fr.via ?_ (by assumption)) | (with_reducible refine Fr.comp ?_ (by assumption))))))
      · have i1 : (24 : Int) < (np : Int) := by omega
        rw [decide_eq_false hq] at hv
        have HV := Lib.hid (show fltS s 12 x = s1 from hv)
        clear hs1 hv hq hne hnp hp0 hx hhd
        go_wp2_with fail
        refine (zfault_any (H1.out.2.2.fr (by (repeat (first | (with_reducible exact Fr.refl _ _) | (with_reducible assumption) | (with_reducible exact Fr.of_nil (by assumption)) | (with_reducible refine Fr.drew ?_) | (with_reducible refine Fr.drewN ?_ _) | (with_reducible refine Fr.alloc ?_ _) | (with_reducible refine Fr.set ?_ _ _ (by first | (intros; omega) | (simp; done) | (simp; omega))) | (with_reducible refine Fr.via ?_ (by assumption)) | (with_reducible refine Fr.comp ?_ (by assumption)))))) 12 x).mono ?_
        rintro e w3 ⟨rfl, h3, f3⟩
        rw [HV.out] at h3
        have H3 := Lib.hid (And.intro h3 (Fr.comp (S := fun b => b = ab) (Fr.of_nil (by (repeat (first | (with_reducible exact Fr.refl _ _) | (with_reducible assumption) | (with_reducible exact Fr.of_nil (by assumption)) | (with_reducible refine Fr.drew ?_) | (with_reducible refine Fr.drewN ?_ _) | (with_reducible refine Fr.alloc ?_ _) | (with_reducible refine Fr.set ?_ _ _ (by first | (intros; omega) | (simp; done) | (simp; omega))) | (with_reducible refine Fr.via ?_ (by assumption)) | (with_reducible refine Fr.comp ?_ (by assumption)))))) f3 : Fr (fun b => b = ab) W1 w3))
        clear h3 f3
        go_wp2_with fail
        go_meet
        case rel => exact H3
    have d2 : ((k : Int) == 2) = false := by rw [beq_eq_false_iff_ne]; omega
    have d5 : ((k : Int) == 5) = false := by rw [beq_eq_false_iff_ne]; omega
    have d4 : ((k : Int) == 4) = false := by rw [beq_eq_false_iff_ne]; omega
    have d8 : ((k : Int) == 8) = false := by rw [beq_eq_false_iff_ne]; omega
    have hv : s = s1 := by rw [← hs1]; unfold askZ; rw [if_neg k2, if_neg k5, if_neg k4, if_neg k8]
    have H3 : Hid (ZAt W1 ab D s1 ∧ Fr (fun b => b = ab) W1 W1) := Lib.hid ⟨by rw [← hv]; exact H1.out.2.2, Fr.refl _ _⟩
    clear hs1 hv k2 k5 k4 k8
    go_wp2_with fail
    go_meet
    case rel => exact H3
  case rest =>
    obtain ⟨W2, hW2⟩ : ∃ W, W = wc := ⟨_, rfl⟩
    subst hW2
    have HC := Lib.hid hcut.out
    clear hcut y1 y4 y5
    have b2 := HC.out.2.blk H1.out.2.1 (fun q => by have q' : T = ab := q; omega)
    have fw2 : Fr (fun b => b = ab) w W2 := (Fr.of_nil H1.out.1).comp HC.out.2
    have H2 := Lib.hid (And.intro fw2 b2)
    clear b2 fw2
    go_wp2_with fail
    go_loopg [4] nb (fun g iv wr => ∃ k : Nat, g = nb - k ∧ k ≤ nb ∧ iv = .int .i64 (k : Int) ∧ Hid (ZAt wr ab D (zB D (bs.take k) s1) ∧ Fr (fun b => b = ab) W2 wr))
    case atStart => exact ⟨0, rfl, by omega, rfl, Lib.hid ⟨by rw [List.take_zero, zB]; exact HC.out.1, Fr.refl _ _⟩⟩
    case round =>
      obtain ⟨kk, rfl, hk, rfl, HS⟩ := hrel
      obtain ⟨Vr, hVr⟩ : ∃ V, V = wr := ⟨_, rfl⟩
      subst hVr
      have j0 : (0 : Int) ≤ (kk : Int) := by omega
      have bT := HS.out.2.blk H2.out.2 (fun q => by have q' : T = ab := q; omega)
      have y6 := bT.cell 6
      simp at y6
      have yl6 := bT.lt
      by_cases hlt : kk < nb
      · have hkL : kk < bs.length := by rw [H0.out.2.2.2.2.2.2.2.2.2.2.2.1]; exact hlt
        have wkk : IntKind.i64.wrap ((kk : Int) + 1) = (kk : Int) + 1 := by rw [IntKind.wrap_i64]; omega
        have j1 : (kk : Int) < (nb : Int) := by omega
        have fwr : Fr (fun b => b = ab) w Vr := H2.out.1.comp HS.out.2
        obtain ⟨b, off, rfl, hbx, hc⟩ := (H0.out.2.2.2.2.1.fr fwr (fun _ q => q)).at hlt
        have hBA := lawB.fr (H0.out.2.2.2.2.2.1 kk hkL) fwr (fun _ q => q)
        obtain ⟨bn, pa, pn, pc, k', nm', fl', bi', e0, m0, d0, e1, m1, d1, e2, m2, d2, e3, m3, d3, ec⟩ := hBA.formB
        rw [ec] at hc hBA
        have hcs := zB_take D hkL s1
        have HX := Lib.hid (And.intro hcs (And.intro (HO.out.2.1 _ (List.getElem_mem hkL)) hBA))
        have p0 := hc 0 _ rfl
        have p1 := hc 1 _ rfl
        have p2 := hc 2 _ rfl
        have p3 := hc 3 _ rfl
        have p4 := hc 4 _ rfl
        have p5 := hc 5 _ rfl
        have p6 := hc 6 _ rfl
        have p7 := hc 7 _ rfl
        have p8 := hc 8 _ rfl
        have p9 := hc 9 _ rfl
        simp only [Nat.add_zero] at p0
        have hbl : b < Vr.heap.size := World.block_lt_of_cell? _ _ p0
        clear hc ec hBA hcs fwr bT
        go_wp2_with fail
        refine (zbind_any HX.out.2.1 (HS.out.1.fr (by (repeat (first | (with_reducible exact Fr.refl _ _) | (with_reducible assumption) | (with_reducible exact Fr.of_nil (by assumption)) | (with_reducible refine Fr.drew ?_) | (with_reducible refine Fr.drewN ?_ _) | (with_reducible refine Fr.alloc ?_ _) | (with_reducible refine Fr.set ?_ _ _ (by first | (intros; omega) | (simp; done) | (simp; omega))) | (with_reducible refine Fr.via ?_ (by assumption)) | (with_reducible refine Fr.comp ?_ (by assumption)))))) (lawB.fr HX.out.2.2 (S := Nil) (by (repeat (first | (with_reducible exact Fr.refl _ _) | (with_reducible assumption) | (with_reducible exact Fr.of_nil (by assumption)) | (with_reducible refine Fr.drew ?_) | (with_reducible refine Fr.drewN ?_ _) | (with_reducible refine Fr.alloc ?_ _) | (with_reducible refine Fr.set ?_ _ _ (by first | (intros; omega) | (simp; done) | (simp; omega))) | (with_reducible refine Fr.via ?_ (by assumption)) | (with_reducible refine Fr.comp ?_ (by assumption))))) (fun _ q => q.elim))).mono ?_
        rintro e w6 ⟨rfl, h6, f6⟩
        have g6 : Fr (fun b => b = ab) Vr w6 := Fr.comp (S := fun b => b = ab) (Fr.of_nil (by (repeat (first | (with_reducible exact Fr.refl _ _) | (with_reducible assumption) | (with_reducible exact Fr.of_nil (by assumption)) | (with_reducible refine Fr.drew ?_) | (with_reducible refine Fr.drewN ?_ _) | (with_reducible refine Fr.alloc ?_ _) | (with_reducible refine Fr.set ?_ _ _ (by first | (intros; omega) | (simp; done) | (simp; omega))) | (with_reducible refine Fr.via ?_ (by assumption)) | (with_reducible refine Fr.comp ?_ (by assumption)))))) f6
        have H6 := Lib.hid (And.intro h6 g6)
        clear h6 f6 g6
        go_wp2
        go_roundg (nb - (kk + 1))
        case rel => exact ⟨kk + 1, rfl, by omega, by simp, Lib.hid ⟨by rw [HX.out.1]; exact H6.out.1, HS.out.2.comp H6.out.2⟩⟩
        case measure => omega
      · have j1 : ¬ (kk : Int) < (nb : Int) := by omega
        obtain rfl : nb = kk := by omega
        have hz3 : ZAt Vr ab D (zB D bs s1) := by
          have h := HS.out.1
          rw [List.take_of_length_le (by rw [H0.out.2.2.2.2.2.2.2.2.2.2.2.1]; exact Nat.le_refl _)] at h
          exact h
        have H3 := Lib.hid (And.intro hz3 (And.intro (H2.out.1.comp HS.out.2) bT))
        clear hz3 bT hlt hk j0
        go_wp2_with fail
        clear y6 yl6 j1
        go_loopg [5] nk (fun g iv wr => ∃ k : Nat, g = nk - k ∧ k ≤ nk ∧ iv = .int .i64 (k : Int) ∧ Hid (ZAt wr ab D (zK D (ks.take k) (zB D bs s1)) ∧ Fr (fun b => b = ab) Vr wr))
        case atStart => exact ⟨0, rfl, by omega, rfl, Lib.hid ⟨by rw [List.take_zero, zK]; exact H3.out.1.fr (by (repeat (first | (with_reducible exact Fr.refl _ _) | (with_reducible assumption) | (with_reducible exact Fr.of_nil (by assumption)) | (with_reducible refine Fr.drew ?_) | (with_reducible refine Fr.drewN ?_ _) | (with_reducible refine Fr.alloc ?_ _) | (with_reducible refine Fr.set ?_ _ _ (by first | (intros; omega) | (simp; done) | (simp; omega))) | (with_reducible refine Fr.via ?_ (by assumption)) | (with_reducible refine Fr.comp ?_ (by assumption))))), Fr.of_nil (by (repeat (first | (with_reducible exact Fr.refl _ _) | (with_reducible assumption) | (with_reducible exact Fr.of_nil (by assumption)) | (with_reducible refine Fr.drew ?_) | (with_reducible refine Fr.drewN ?_ _) | (with_reducible refine Fr.alloc ?_ _) | (with_reducible refine Fr.set ?_ _ _ (by first | (intros; omega) | (simp; done) | (simp; omega))) | (with_reducible refine Fr.via ?_ (by assumption)) | (with_reducible refine Fr.comp ?_ (by assumption)))))⟩⟩
        case round =>
          obtain ⟨kk, rfl, hk, rfl, HS⟩ := hrel
          obtain ⟨V3, hV3⟩ : ∃ V, V = wr := ⟨_, rfl⟩
          subst hV3
          have j0 : (0 : Int) ≤ (kk : Int) := by omega
          have bT := HS.out.2.blk H3.out.2.2 (fun q => by have q' : T = ab := q; omega)
          have y5 := bT.cell 5
          simp at y5
          have yl5 := bT.lt
          by_cases hlt : kk < nk
          · have hkL : kk < ks.length := by rw [H0.out.2.2.2.2.2.2.2.2.2.2.1]; exact hlt
            have wkk : IntKind.i64.wrap ((kk : Int) + 1) = (kk : Int) + 1 := by rw [IntKind.wrap_i64]; omega
            have j1 : (kk : Int) < (nk : Int) := by omega
            have fwr : Fr (fun b => b = ab) w V3 := H3.out.2.1.comp HS.out.2
            obtain ⟨b, off, rfl, hbx, hc⟩ := (H0.out.2.2.1.fr fwr (fun _ q => q)).at hlt
            have hE := (H0.out.2.2.2.1 kk hkL).fr fwr (fun _ q => q)
            obtain ⟨k', nm', fl', bi', e0, m0, d0, e1, m1, d1, e2, m2, d2, e3, m3, d3, ec⟩ := hE.formE
            rw [ec] at hc hE
            have hcs := zK_take D hkL (zB D bs s1)
            have HX := Lib.hid (And.intro hcs (And.intro (HO.out.1 _ (List.getElem_mem hkL)) hE))
            have p0 := hc 0 _ rfl
            have p1 := hc 1 _ rfl
            have p2 := hc 2 _ rfl
            have p3 := hc 3 _ rfl
            have p4 := hc 4 _ rfl
            have p5 := hc 5 _ rfl
            have p6 := hc 6 _ rfl
            have p7 := hc 7 _ rfl
            simp only [Nat.add_zero] at p0
            have hbl : b < V3.heap.size := World.block_lt_of_cell? _ _ p0
            clear hc ec hE hcs fwr bT
            go_wp2_with fail
            refine (HX.out.2.1 _ ab _ _ (HS.out.1.fr (by (repeat (first | (with_reducible exact Fr.refl _ _) | (with_reducible assumption) | (with_reducible exact Fr.of_nil (by assumption)) | (with_reducible refine Fr.drew ?_) | (with_reducible refine Fr.drewN ?_ _) | (with_reducible refine Fr.alloc ?_ _) | (with_reducible refine Fr.set ?_ _ _ (by first | (intros; omega) | (simp; done) | (simp; omega))) | (with_reducible refine Fr.via ?_ (by assumption)) | (with_reducible refine Fr.comp ?_ (by assumption)))))) (HX.out.2.2.fr (S := Nil) (by (repeat (first | (with_reducible exact Fr.refl _ _) | (with_reducible assumption) | (with_reducible exact Fr.of_nil (by assumption)) | (with_reducible refine Fr.drew ?_) | (with_reducible refine Fr.drewN ?_ _) | (with_reducible refine Fr.alloc ?_ _) | (with_reducible refine Fr.set ?_ _ _ (by first | (intros; omega) | (simp; done) | (simp; omega))) | (with_reducible refine Fr.via ?_ (by assumption)) | (with_reducible refine Fr.comp ?_ (by assumption))))) (fun _ q => q.elim))).mono ?_
            rintro e w6 ⟨rfl, h6, f6⟩
            have g6 : Fr (fun b => b = ab) V3 w6 := Fr.comp (S := fun b => b = ab) (Fr.of_nil (by (repeat (first | (with_reducible exact Fr.refl _ _) | (with_reducible assumption) | (with_reducible exact Fr.of_nil (by assumption)) | (with_reducible refine Fr.drew ?_) | (with_reducible refine Fr.drewN ?_ _) | (with_reducible refine Fr.alloc ?_ _) | (with_reducible refine Fr.set ?_ _ _ (by first | (intros; omega) | (simp; done) | (simp; omega))) | (with_reducible refine Fr.via ?_ (by assumption)) | (with_reducible refine Fr.comp ?_ (by assumption)))))) f6
            have H6 := Lib.hid (And.intro h6 g6)
            clear h6 f6 g6
            go_wp2
            go_roundg (nk - (kk + 1))
            case rel => exact ⟨kk + 1, rfl, by omega, by simp, Lib.hid ⟨by rw [HX.out.1]; exact H6.out.1, HS.out.2.comp H6.out.2⟩⟩
            case measure => omega
          · have j1 : ¬ (kk : Int) < (nk : Int) := by omega
            obtain rfl : nk = kk := by omega
            have hz4 : ZAt V3 ab D (zK D ks (zB D bs s1)) := by
              have h := HS.out.1
              rw [List.take_of_length_le (by rw [H0.out.2.2.2.2.2.2.2.2.2.2.1]; exact Nat.le_refl _)] at h
              exact h
            have H4 := Lib.hid (And.intro hz4 (And.intro (H3.out.2.1.comp HS.out.2) bT))
            clear hz4 bT hlt hk j0
            go_wp2_with fail
            clear y5 yl5 j1
            go_loopg [6] na (fun g iv wr => ∃ k : Nat, g = na - k ∧ k ≤ na ∧ iv = .int .i64 (k : Int) ∧ Hid (ZAt wr ab D (zA D (al.take k) (zK D ks (zB D bs s1))) ∧ Fr (fun b => b = ab) V3 wr))
            case atStart => exact ⟨0, rfl, by omega, rfl, Lib.hid ⟨by rw [List.take_zero, zA]; exact H4.out.1.fr (by (repeat (first | (with_reducible exact Fr.refl _ _) | (with_reducible assumption) | (with_reducible exact Fr.of_nil (by assumption)) | (with_reducible refine Fr.drew ?_) | (with_reducible refine Fr.drewN ?_ _) | (with_reducible refine Fr.alloc ?_ _) | (with_reducible refine Fr.set ?_ _ _ (by first | (intros; omega) | (simp; done) | (simp; omega))) | (with_reducible refine Fr.via ?_ (by assumption)) | (with_reducible refine Fr.comp ?_ (by assumption))))), Fr.of_nil (by (repeat (first | (with_reducible exact Fr.refl _ _) | (with_reducible assumption) | (with_reducible exact Fr.of_nil (by assumption)) | (with_reducible refine Fr.drew ?_) | (with_reducible refine Fr.drewN ?_ _) | (with_reducible refine Fr.alloc ?_ _) | (with_reducible refine Fr.set ?_ _ _ (by first | (intros; omega) | (simp; done) | (simp; omega))) | (with_reducible refine Fr.via ?_ (by assumption)) | (with_reducible refine Fr.comp ?_ (by assumption)))))⟩⟩
            case round =>
              obtain ⟨kk, rfl, hk, rfl, HS⟩ := hrel
              obtain ⟨V4, hV4⟩ : ∃ V, V = wr := ⟨_, rfl⟩
              subst hV4
              have j0 : (0 : Int) ≤ (kk : Int) := by omega
              have bT := HS.out.2.blk H4.out.2.2 (fun q => by have q' : T = ab := q; omega)
              have y7 := bT.cell 7
              simp at y7
              have yl7 := bT.lt
              by_cases hlt : kk < na
              · have hkL : kk < al.length := by rw [H0.out.2.2.2.2.2.2.2.2.2.2.2.2.1]; exact hlt
                have wkk : IntKind.i64.wrap ((kk : Int) + 1) = (kk : Int) + 1 := by rw [IntKind.wrap_i64]; omega
                have j1 : (kk : Int) < (na : Int) := by omega
                have fwr : Fr (fun b => b = ab) w V4 := H4.out.2.1.comp HS.out.2
                obtain ⟨b, off, rfl, hbx, hc⟩ := (H0.out.2.2.2.2.2.2.1.fr fwr (fun _ q => q)).at hlt
                have hAA := lawA.fr (H0.out.2.2.2.2.2.2.2.1 kk hkL) fwr (fun _ q => q)
                obtain ⟨tk, tn, tf, tb, pa, pn, pc, k', nm', fl', bi', e0, m0, d0, e1, m1, d1, e2, m2, d2, e3, m3, d3, ec⟩ := hAA.formA
                rw [ec] at hc hAA
                obtain ⟨hrp, hE, etn, etk⟩ := hAA.parts
                have hpn : al[kk].names.length = pn := by
                  obtain ⟨a9, c9, e9, _⟩ := hrp
                  cases e9
                  rfl
                obtain ⟨x, hx⟩ : ∃ x, al[kk].name = x := ⟨_, rfl⟩
                rw [hx] at etn
                subst etn
                obtain ⟨s2, hs2⟩ : ∃ s2, zA D (al.take kk) (zK D ks (zB D bs s1)) = s2 := ⟨_, rfl⟩
                have hcs := zA_take D hkL (zK D ks (zB D bs s1))
                rw [hs2, hpn, hx, ← etk] at hcs
                have hzs2 : ZAt V4 ab D s2 := hs2 ▸ HS.out.1
                have HX := Lib.hid (And.intro hcs (And.intro (HO.out.2.2.1 _ (List.getElem_mem hkL)) (And.intro hE hzs2)))
                have p0 := hc 0 _ rfl
                have p1 := hc 1 _ rfl
                have p2 := hc 2 _ rfl
                have p3 := hc 3 _ rfl
                have p4 := hc 4 _ rfl
                have p5 := hc 5 _ rfl
                have p6 := hc 6 _ rfl
                have p7 := hc 7 _ rfl
                have p8 := hc 8 _ rfl
                have p9 := hc 9 _ rfl
                have p10 := hc 10 _ rfl
                have p11 := hc 11 _ rfl
                have p12 := hc 12 _ rfl
                simp only [Nat.add_zero] at p0
                have hbl : b < V4.heap.size := World.block_lt_of_cell? _ _ p0
                have hHC : Hid (∀ w', Fr (fun q => q = ab) V4 w' → w'.cell? ⟨b, off + kk * 13, none⟩ = some (.int .i64 (tk : Int)) ∧ w'.cell? ⟨b, off + kk * 13 + 1, none⟩ = some (.string ⟨x.toArray⟩) ∧ w'.cell? ⟨b, off + kk * 13 + 2, none⟩ = some (.bool tf) ∧ w'.cell? ⟨b, off + kk * 13 + 3, none⟩ = some (.int .u64 (tb : Int)) ∧ w'.cell? ⟨b, off + kk * 13 + 4, none⟩ = some (.slice pa pn pc) ∧ w'.cell? ⟨b, off + kk * 13 + 5, none⟩ = some (.int .i64 (k' : Int)) ∧ w'.cell? ⟨b, off + kk * 13 + 6, none⟩ = some (.string nm') ∧ w'.cell? ⟨b, off + kk * 13 + 7, none⟩ = some (.bool fl') ∧ w'.cell? ⟨b, off + kk * 13 + 8, none⟩ = some (.int .u64 (bi' : Int)) ∧ w'.cell? ⟨b, off + kk * 13 + 9, none⟩ = some (.slice e0 m0 d0) ∧ w'.cell? ⟨b, off + kk * 13 + 10, none⟩ = some (.slice e1 m1 d1) ∧ w'.cell? ⟨b, off + kk * 13 + 11, none⟩ = some (.slice e2 m2 d2) ∧ w'.cell? ⟨b, off + kk * 13 + 12, none⟩ = some (.slice e3 m3 d3)) := Lib.hid (fun w' f => ⟨f.cell p0 hbx, f.cell p1 hbx, f.cell p2 hbx, f.cell p3 hbx, f.cell p4 hbx, f.cell p5 hbx, f.cell p6 hbx, f.cell p7 hbx, f.cell p8 hbx, f.cell p9 hbx, f.cell p10 hbx, f.cell p11 hbx, f.cell p12 hbx⟩)
                have hB7 := Lib.hid bT
                clear hc ec hAA hrp hE hpn hx hs2 hcs hzs2 fwr bT etk
                by_cases ht : tk = 0
                · subst ht
                  go_upto_region 25 with fail
                  go_region_held3 (fun w' => w'.cell? ⟨T, 7, none⟩ = some (.slice (some ⟨b, off, none⟩) na c3) ∧ w'.cell? ⟨b, off + kk * 13 + 1, none⟩ = some (.string ⟨x.toArray⟩) ∧ w'.cell? ⟨b, off + kk * 13 + 4, none⟩ = some (.slice pa pn pc)) (refine ⟨?_, ?_, ?_⟩ <;> first | (first | exact g8y | exact g81 | exact g84) | (first | exact y7 | exact p1 | exact p4)) (first
                    | (go_at_call 122; refine (zcount_any (HX.out.2.2.2.fr (by (repeat (first | (with_reducible exact Fr.refl _ _) | (with_reducible assumption) | (with_reducible exact Fr.of_nil (by assumption)) | (with_reducible refine Fr.drew ?_) | (with_reducible refine Fr.drewN ?_ _) | (with_reducible refine Fr.alloc ?_ _) | (with_reducible refine Fr.set ?_ _ _ (by first | (intros; omega) | (simp; done) | (simp; omega))) | (with_reducible refine Fr.via ?_ (by assumption)) | (with_reducible refine Fr.comp ?_ (by assumption)))))) HO.out.2.2.2.1 x pn).mono ?_; rintro r w8 ⟨rfl, h8, f8⟩; have g8 : Fr (fun q => q = ab) V4 w8 := Fr.comp (S := fun q => q = ab) (Fr.of_nil (by (repeat (first | (with_reducible exact Fr.refl _ _) | (with_reducible assumption) | (with_reducible exact Fr.of_nil (by assumption)) | (with_reducible refine Fr.drew ?_) | (with_reducible refine Fr.drewN ?_ _) | (with_reducible refine Fr.alloc ?_ _) | (with_reducible refine Fr.set ?_ _ _ (by first | (intros; omega) | (simp; done) | (simp; omega))) | (with_reducible refine Fr.via ?_ (by assumption)) | (with_reducible refine Fr.comp ?_ (by assumption)))))) f8; have b8 := g8.blk hB7.out (fun q => by have q' : T = ab := q; omega); have g8y := b8.cell 7; simp at g8y; have g8l := b8.lt; have hz := hHC.out w8 g8; have g81 := hz.2.1; have g84 := hz.2.2.2.2.1; clear f8 b8))
                  rename_i hHeld
                  clear hHeld
                  obtain ⟨z0, z1, z2, z3, z4, z5, z6, z7, z8, z9, z10, z11, z12⟩ := hz
                  have H8 := Lib.hid (And.intro h8 g8)
                  have hbl8 := g8.lt hbl
                  clear h8 g8 g81 g84 p0 p1 p2 p3 p4 p5 p6 p7 p8 p9 p10 p11 p12 y7 yl7 hbl
                  go_wp2_with fail
                  refine (HX.out.2.1 _ ab _ _ (H8.out.1.fr (by (repeat (first | (with_reducible exact Fr.refl _ _) | (with_reducible assumption) | (with_reducible exact Fr.of_nil (by assumption)) | (with_reducible refine Fr.drew ?_) | (with_reducible refine Fr.drewN ?_ _) | (with_reducible refine Fr.alloc ?_ _) | (with_reducible refine Fr.set ?_ _ _ (by first | (intros; omega) | (simp; done) | (simp; omega))) | (with_reducible refine Fr.via ?_ (by assumption)) | (with_reducible refine Fr.comp ?_ (by assumption)))))) (HX.out.2.2.1.fr (H8.out.2.comp (Fr.of_nil (by (repeat (first | (with_reducible exact Fr.refl _ _) | (with_reducible assumption) | (with_reducible exact Fr.of_nil (by assumption)) | (with_reducible refine Fr.drew ?_) | (with_reducible refine Fr.drewN ?_ _) | (with_reducible refine Fr.alloc ?_ _) | (with_reducible refine Fr.set ?_ _ _ (by first | (intros; omega) | (simp; done) | (simp; omega))) | (with_reducible refine Fr.via ?_ (by assumption)) | (with_reducible refine Fr.comp ?_ (by assumption))))))) (fun _ q => q))).mono ?_
                  rintro e w9 ⟨rfl, h9, f9⟩
                  have H9 := Lib.hid (And.intro h9 (H8.out.2.comp (Fr.comp (S := fun q => q = ab) (Fr.of_nil (by (repeat (first | (with_reducible exact Fr.refl _ _) | (with_reducible assumption) | (with_reducible exact Fr.of_nil (by assumption)) | (with_reducible refine Fr.drew ?_) | (with_reducible refine Fr.drewN ?_ _) | (with_reducible refine Fr.alloc ?_ _) | (with_reducible refine Fr.set ?_ _ _ (by first | (intros; omega) | (simp; done) | (simp; omega))) | (with_reducible refine Fr.via ?_ (by assumption)) | (with_reducible refine Fr.comp ?_ (by assumption)))))) f9)))
                  clear h9 f9
                  go_wp2
                  go_roundg (na - (kk + 1))
                  case rel => exact ⟨kk + 1, rfl, by omega, by simp, Lib.hid ⟨by rw [HX.out.1, if_pos trivial]; exact H9.out.1, HS.out.2.comp H9.out.2⟩⟩
                  case measure => omega
                · have dt : ((tk : Int) == 0) = false := by rw [beq_eq_false_iff_ne]; omega
                  have HT := Lib.hid ht
                  clear ht
                  go_wp2_with fail
                  refine (HX.out.2.1 _ ab _ _ (HX.out.2.2.2.fr (by (repeat (first | (with_reducible exact Fr.refl _ _) | (with_reducible assumption) | (with_reducible exact Fr.of_nil (by assumption)) | (with_reducible refine Fr.drew ?_) | (with_reducible refine Fr.drewN ?_ _) | (with_reducible refine Fr.alloc ?_ _) | (with_reducible refine Fr.set ?_ _ _ (by first | (intros; omega) | (simp; done) | (simp; omega))) | (with_reducible refine Fr.via ?_ (by assumption)) | (with_reducible refine Fr.comp ?_ (by assumption)))))) (HX.out.2.2.1.fr (S := Nil) (by (repeat (first | (with_reducible exact Fr.refl _ _) | (with_reducible assumption) | (with_reducible exact Fr.of_nil (by assumption)) | (with_reducible refine Fr.drew ?_) | (with_reducible refine Fr.drewN ?_ _) | (with_reducible refine Fr.alloc ?_ _) | (with_reducible refine Fr.set ?_ _ _ (by first | (intros; omega) | (simp; done) | (simp; omega))) | (with_reducible refine Fr.via ?_ (by assumption)) | (with_reducible refine Fr.comp ?_ (by assumption))))) (fun _ q => q.elim))).mono ?_
                  rintro e w9 ⟨rfl, h9, f9⟩
                  have H9 := Lib.hid (And.intro h9 (Fr.comp (S := fun q => q = ab) (Fr.of_nil (by (repeat (first | (with_reducible exact Fr.refl _ _) | (with_reducible assumption) | (with_reducible exact Fr.of_nil (by assumption)) | (with_reducible refine Fr.drew ?_) | (with_reducible refine Fr.drewN ?_ _) | (with_reducible refine Fr.alloc ?_ _) | (with_reducible refine Fr.set ?_ _ _ (by first | (intros; omega) | (simp; done) | (simp; omega))) | (with_reducible refine Fr.via ?_ (by assumption)) | (with_reducible refine Fr.comp ?_ (by assumption)))))) f9 : Fr (fun q => q = ab) V4 w9))
                  clear h9 f9
                  go_wp2
                  go_roundg (na - (kk + 1))
                  case rel => exact ⟨kk + 1, rfl, by omega, by simp, Lib.hid ⟨by rw [HX.out.1, if_neg HT.out]; exact H9.out.1, HS.out.2.comp H9.out.2⟩⟩
                  case measure => omega
              · have j1 : ¬ (kk : Int) < (na : Int) := by omega
                obtain rfl : na = kk := by omega
                have HS1 : Hid (ZAt V4 ab D (zE D (.mk k nm fl bi ps ks bs al) s)) := Lib.hid (by
                  have h := HS.out.1
                  rw [List.take_of_length_le (by rw [H0.out.2.2.2.2.2.2.2.2.2.2.2.2.1]; exact Nat.le_refl _)] at h
                  rw [H0.out.2.2.2.2.2.2.2.2.1]
                  exact h)
                clear bT
                go_wp2
                go_end0
                exact ⟨rfl, HS1.out.fr (by (repeat (first | (with_reducible exact Fr.refl _ _) | (with_reducible assumption) | (with_reducible exact Fr.of_nil (by assumption)) | (with_reducible refine Fr.drew ?_) | (with_reducible refine Fr.drewN ?_ _) | (with_reducible refine Fr.alloc ?_ _) | (with_reducible refine Fr.set ?_ _ _ (by first | (intros; omega) | (simp; done) | (simp; omega))) | (with_reducible refine Fr.via ?_ (by assumption)) | (with_reducible refine Fr.comp ?_ (by assumption))))), (H4.out.2.1.comp HS.out.2).comp (Fr.of_nil (by (repeat (first | (with_reducible exact Fr.refl _ _) | (with_reducible assumption) | (with_reducible exact Fr.of_nil (by assumption)) | (with_reducible refine Fr.drew ?_) | (with_reducible refine Fr.drewN ?_ _) | (with_reducible refine Fr.alloc ?_ _) | (with_reducible refine Fr.set ?_ _ _ (by first | (intros; omega) | (simp; done) | (simp; omega))) | (with_reducible refine Fr.via ?_ (by assumption)) | (with_reducible refine Fr.comp ?_ (by assumption))))))⟩

/-- The document's arity, at every expression. -/
theorem z_all (hD : D.length ≤ 900000) : ∀ (m : Nat) (e : TE), szE e ≤ m → wsE e → ZOk D e := by
  intro m
  induction m with
  | zero =>
    intro e he
    cases e with
    | mk k nm fl bi ps ks bs al =>
      have e1 : szE (.mk k nm fl bi ps ks bs al) = 1 + szK ks + szB bs + szA al := rfl
      omega
  | succ m ih =>
    intro e he hs
    cases e with
    | mk k nm fl bi ps ks bs al =>
      have e1 : szE (.mk k nm fl bi ps ks bs al) = 1 + szK ks + szB bs + szA al := rfl
      unfold wsE at hs
      obtain ⟨⟨q1, q7, q8⟩, hsk, hsb, hsa⟩ := hs
      exact zexpr_any hD q8
        (fun e h => ih e (by have := mem_szK h; omega) (wsK_mem hsk h))
        (fun b h => ih b.body (by have := mem_szB h; omega) (wsB_mem hsb h))
        (fun b h => ih b.body (by have := mem_szA h; omega) (wsA_mem hsa h))
end
end Go.Proofs.YtpjlibbdngnnnaaGreatDoor
