/-
  Contracts of the document's answer for layer 7: the token that stands at a place; all tokens of a source. No conditions but sizes that memory bears.
-/
import Derived.Test.YthpenpgcacikaaaRef07h
import Derived.Deep.DeepCutAuto
namespace Go.Proofs.Ythpenpgcacikaaa
set_option linter.unusedSimpArgs false
set_option linter.unusedVariables false
open Go.RowKit

section
variable (s : ByteArray) (at_ line : Nat) (w : World) (hs : s.size ≤ 1000000) (hat : at_ < s.size)
include hs hat
set_option maxRecDepth 100000 in
set_option maxHeartbeats 1000000 in
theorem one_sign (h1 : smallC s[at_] = false) (h2 : capC s[at_] = false) (h3 : digC s[at_] = false) (h4 : s[at_].toNat ≠ 35) :
    Calls Try.prog 36 #[.string s, .int .i64 at_, .int .i64 line] w fun e w' => OneRes (oneF (s.data.toList.drop at_) line) e ∧ Fr Nil w w' := by
  have hone : oneF (s.data.toList.drop at_) line = (if (longF (s.data.toList.drop at_) opsL).length < (longF (s.data.toList.drop at_) punctsL).length then (⟨6, longF (s.data.toList.drop at_) punctsL, false, 0, line⟩, 0) else if longF (s.data.toList.drop at_) opsL = [] then (none_ line, 3) else (⟨4, longF (s.data.toList.drop at_) opsL, false, 0, line⟩, 0)) := by
    rw [drop_cons s at_ hat]
    unfold oneF
    simp only
    rw [if_neg (by simp [h1, h2]), if_neg (by simp [h3]), if_neg (fun e => h4 (by rw [e]; rfl))]
  have hl1 := fun b w hb => longest_any s at_ b opsL w hs (by omega) (by decide) (by decide) hb
  have hl2 := fun b w hb => longest_any s at_ b punctsL w hs (by omega) (by decide) (by decide) hb
  rw [show opsL.length = 13 by decide] at hl1
  rw [show punctsL.length = 8 by decide] at hl2
  have p1 := (longF_pre (s.data.toList.drop at_) opsL).length_le
  have p2 := (longF_pre (s.data.toList.drop at_) punctsL).length_le
  rw [List.length_drop, size_of] at p1 p2
  rw [hone]
  generalize longF (s.data.toList.drop at_) opsL = o at *
  generalize longF (s.data.toList.drop at_) punctsL = p at *
  obtain ⟨O, hO⟩ : ∃ O : ByteArray, O = ⟨o.toArray⟩ := ⟨_, rfl⟩
  obtain ⟨P, hP⟩ : ∃ P : ByteArray, P = ⟨p.toArray⟩ := ⟨_, rfl⟩
  have o1 : O.size = o.length := by rw [hO]; simp [ByteArray.size]
  have o2 : P.size = p.length := by rw [hP]; simp [ByteArray.size]
  have o3 : O.data.toList = o := by rw [hO]
  have o4 : P.data.toList = p := by rw [hP]
  have t3 : ((s[at_].toNat : Int) == 35) = false := by simp; omega
  rw [← hO] at hl1
  rw [← hP] at hl2
  have i0 : (0 : Int) ≤ (at_ : Int) := by omega
  have i1 : (at_ : Int) < (s.size : Int) := by omega
  have HL1 := Lib.hid hl1
  have HL2 := Lib.hid hl2
  have HO := Lib.hid (And.intro o1 (And.intro o2 (And.intro o3 o4)))
  have hb1 : O.size ≤ 1000000 := by omega
  have hb2 : P.size ≤ 1000000 := by omega
  clear hone hl1 hl2 hO hP o1 o2 o3 o4 p1 p2 h4
  by_cases g : o.length < p.length
  · rw [if_pos g]
    have g1 : (O.size : Int) < (P.size : Int) := by have := HO.out; omega
    have g2 : P.toList.isEmpty = false := by
      rw [Lib.toList_data, HO.out.2.2.2]
      cases p with
      | nil => simp at g
      | cons a b => rfl
    clear g
    go_enter Try.func36, Try.ntmps36
    go_wp2_with (first
      | (go_at_call 49; refine (small_any _ _).mono ?_; rintro e w1 ⟨rfl, rfl⟩)
      | (go_at_call 50; refine (cap_any _ _).mono ?_; rintro e w1 ⟨rfl, rfl⟩)
      | (go_at_call 53; refine (dig_any _ _).mono ?_; rintro e w1 ⟨rfl, rfl⟩)
      | fail)
    refine (ops_any _).mono ?_
    rintro e w2 ⟨bo, rfl, bk, f2⟩
    obtain ⟨_, _, _⟩ := f2.at (w.heap.size) (by first | assumption | omega | (simp; done) | (simp; omega)); obtain ⟨_, _, _⟩ := f2.at (w.heap.size + 1) (by first | assumption | omega | (simp; done) | (simp; omega))
    have ff2 : Fr Nil w w2 := Fr.trans (by (repeat (first | (with_reducible exact Fr.refl _ _) | (with_reducible assumption) | (with_reducible exact Fr.of_nil (by assumption)) | (with_reducible refine Fr.drew ?_) | (with_reducible refine Fr.drewN ?_ _) | (with_reducible refine Fr.alloc ?_ _) | (with_reducible refine Fr.set ?_ _ _ (by first | (intros; omega) | (simp; done) | (simp; omega))) | (with_reducible refine Fr.via ?_ (by assumption)) | (with_reducible refine Fr.comp ?_ (by assumption))))) f2 (fun _ _ q => q)
    go_wp2_with fail
    refine (HL1.out bo _ bk).mono ?_
    rintro e w3 ⟨rfl, f3⟩
    have ff3 := ff2.comp f3
    obtain ⟨_, _, _⟩ := f3.at ((w.heap.size)) (by first | assumption | omega | (simp; done) | (simp; omega)); obtain ⟨_, _, _⟩ := f3.at ((w.heap.size + 1)) (by first | assumption | omega | (simp; done) | (simp; omega))
    go_wp2_with fail
    refine (puncts_any _).mono ?_
    rintro e w4 ⟨bp, rfl, bk', f4⟩
    have ff4 := ff3.comp f4
    obtain ⟨_, _, _⟩ := f4.at ((w.heap.size)) (by first | assumption | omega | (simp; done) | (simp; omega)); obtain ⟨_, _, _⟩ := f4.at ((w.heap.size + 1)) (by first | assumption | omega | (simp; done) | (simp; omega))
    go_wp2_with fail
    refine (HL2.out bp _ bk').mono ?_
    rintro e w5 ⟨rfl, f5⟩
    have ff5 := ff4.comp f5
    obtain ⟨_, _, _⟩ := f5.at ((w.heap.size)) (by first | assumption | omega | (simp; done) | (simp; omega)); obtain ⟨_, _, _⟩ := f5.at ((w.heap.size + 1)) (by first | assumption | omega | (simp; done) | (simp; omega))
    have b2 := f2.blk (b := w.heap.size + 1) (c := #[.int .i64 0, .string ⟨#[]⟩, .bool false, .int .u64 0, .int .i64 line]) (t := 80) (by (unfold Blk; simp (disch := first | omega | (simp; done) | (simp; omega)) only [hp_drew, hp_drewN, hp_alloc, hp_other, hp_same, hp_new, upd_cells, Option.map_some])) (by simp [Nil])
    have r2 := f2.blk (b := w.heap.size) (c := #[.int .i64 0, .string ⟨#[]⟩, .bool false, .int .u64 0, .int .i64 0]) (t := 80) (by (unfold Blk; simp (disch := first | omega | (simp; done) | (simp; omega)) only [hp_drew, hp_drewN, hp_alloc, hp_other, hp_same, hp_new, upd_cells, Option.map_some])) (by simp [Nil])
    have f25 := (f3.comp f4).comp f5
    have b5 := f25.blk b2 (by simp [Nil])
    have r5 := f25.blk r2 (by simp [Nil])
    clear bk bk' b2 r2
    go_upto_region 23 with fail
    obtain ⟨V, hV⟩ : ∃ V, V = (w5.setCell ⟨w.heap.size + 1, 0, none⟩ (.int .i64 4)).setCell ⟨w.heap.size + 1, 1, none⟩ (.string O) := ⟨_, rfl⟩
    rw [← hV]
    have bV : Blk V (w.heap.size + 1) #[.int .i64 4, .string O, .bool false, .int .u64 0, .int .i64 line] 80 := by
      rw [hV]; (unfold Blk; simp (disch := first | omega | (simp; done) | (simp; omega)) only [hp_drew, hp_drewN, hp_alloc, hp_other, hp_same, hp_new, upd_cells, Option.map_some, (b5).eq]); simp
    have rV : Blk V w.heap.size #[.int .i64 0, .string ⟨#[]⟩, .bool false, .int .u64 0, .int .i64 0] 80 := by
      rw [hV]; (unfold Blk; simp (disch := first | omega | (simp; done) | (simp; omega)) only [hp_drew, hp_drewN, hp_alloc, hp_other, hp_same, hp_new, upd_cells, Option.map_some, (r5).eq])
    have fV : Fr Nil w V := by rw [hV]; (repeat (first | (with_reducible exact Fr.refl _ _) | (with_reducible assumption) | (with_reducible exact Fr.of_nil (by assumption)) | (with_reducible refine Fr.drew ?_) | (with_reducible refine Fr.drewN ?_ _) | (with_reducible refine Fr.alloc ?_ _) | (with_reducible refine Fr.set ?_ _ _ (by first | (intros; omega) | (simp; done) | (simp; omega))) | (with_reducible refine Fr.via ?_ (by assumption)) | (with_reducible refine Fr.comp ?_ (by assumption))))
    clear hV b5 r5
    have p0 := bV.cell 0
    have x0 := bV.free 0
    have q0 := rV.cell 0
    have y0 := rV.free 0
    have p1 := bV.cell 1
    have x1 := bV.free 1
    have q1 := rV.cell 1
    have y1 := rV.free 1
    have p2 := bV.cell 2
    have x2 := bV.free 2
    have q2 := rV.cell 2
    have y2 := rV.free 2
    have p3 := bV.cell 3
    have x3 := bV.free 3
    have q3 := rV.cell 3
    have y3 := rV.free 3
    have p4 := bV.cell 4
    have x4 := bV.free 4
    have q4 := rV.cell 4
    have y4 := rV.free 4
    simp at p0 p1 p2 p3 p4 q0 q1 q2 q3 q4
    have l1 := bV.lt
    have l2 := rV.lt
    go_wp2
    refine bodyPost_ret (v := .tuple #[.agg #[.int .i64 6, .string P, .bool false, .int .u64 ((0 : Nat) : Int), .int .i64 (line : Int)], .int .i64 0]) (by simp [results, Try.results36, go_sem, *]) rfl ⟨?_, by (repeat (first | (with_reducible exact Fr.refl _ _) | (with_reducible assumption) | (with_reducible exact Fr.of_nil (by assumption)) | (with_reducible refine Fr.drew ?_) | (with_reducible refine Fr.drewN ?_ _) | (with_reducible refine Fr.alloc ?_ _) | (with_reducible refine Fr.set ?_ _ _ (by first | (intros; omega) | (simp; done) | (simp; omega))) | (with_reducible refine Fr.via ?_ (by assumption)) | (with_reducible refine Fr.comp ?_ (by assumption))))⟩
    rw [tok_ret HO.out.2.2.2]
    exact OneRes.of rfl
  · rw [if_neg g]
    have g1 : ¬ (O.size : Int) < (P.size : Int) := by have := HO.out; omega
    clear g
    by_cases g0 : o = []
    · rw [if_pos g0]
      have g2 : O.toList.isEmpty = true := by rw [Lib.toList_data, HO.out.2.2.1, g0]; rfl
      have g3 : O.toList = [] := by rw [Lib.toList_data, HO.out.2.2.1, g0]
      clear g0
      go_enter Try.func36, Try.ntmps36
      go_wp2_with (first
        | (go_at_call 49; refine (small_any _ _).mono ?_; rintro e w1 ⟨rfl, rfl⟩)
        | (go_at_call 50; refine (cap_any _ _).mono ?_; rintro e w1 ⟨rfl, rfl⟩)
        | (go_at_call 53; refine (dig_any _ _).mono ?_; rintro e w1 ⟨rfl, rfl⟩)
        | fail)
      refine (ops_any _).mono ?_
      rintro e w2 ⟨bo, rfl, bk, f2⟩
      obtain ⟨_, _, _⟩ := f2.at (w.heap.size) (by first | assumption | omega | (simp; done) | (simp; omega)); obtain ⟨_, _, _⟩ := f2.at (w.heap.size + 1) (by first | assumption | omega | (simp; done) | (simp; omega))
      have ff2 : Fr Nil w w2 := Fr.trans (by (repeat (first | (with_reducible exact Fr.refl _ _) | (with_reducible assumption) | (with_reducible exact Fr.of_nil (by assumption)) | (with_reducible refine Fr.drew ?_) | (with_reducible refine Fr.drewN ?_ _) | (with_reducible refine Fr.alloc ?_ _) | (with_reducible refine Fr.set ?_ _ _ (by first | (intros; omega) | (simp; done) | (simp; omega))) | (with_reducible refine Fr.via ?_ (by assumption)) | (with_reducible refine Fr.comp ?_ (by assumption))))) f2 (fun _ _ q => q)
      go_wp2_with fail
      refine (HL1.out bo _ bk).mono ?_
      rintro e w3 ⟨rfl, f3⟩
      have ff3 := ff2.comp f3
      obtain ⟨_, _, _⟩ := f3.at ((w.heap.size)) (by first | assumption | omega | (simp; done) | (simp; omega)); obtain ⟨_, _, _⟩ := f3.at ((w.heap.size + 1)) (by first | assumption | omega | (simp; done) | (simp; omega))
      go_wp2_with fail
      refine (puncts_any _).mono ?_
      rintro e w4 ⟨bp, rfl, bk', f4⟩
      have ff4 := ff3.comp f4
      obtain ⟨_, _, _⟩ := f4.at ((w.heap.size)) (by first | assumption | omega | (simp; done) | (simp; omega)); obtain ⟨_, _, _⟩ := f4.at ((w.heap.size + 1)) (by first | assumption | omega | (simp; done) | (simp; omega))
      go_wp2_with fail
      refine (HL2.out bp _ bk').mono ?_
      rintro e w5 ⟨rfl, f5⟩
      have ff5 := ff4.comp f5
      obtain ⟨_, _, _⟩ := f5.at ((w.heap.size)) (by first | assumption | omega | (simp; done) | (simp; omega)); obtain ⟨_, _, _⟩ := f5.at ((w.heap.size + 1)) (by first | assumption | omega | (simp; done) | (simp; omega))
      go_wp2
      refine bodyPost_ret (v := .tuple #[.agg #[.int .i64 4, .string O, .bool false, .int .u64 ((0 : Nat) : Int), .int .i64 (line : Int)], .int .i64 3]) (by simp [results, Try.results36, go_sem, *]) rfl ⟨?_, by (repeat (first | (with_reducible exact Fr.refl _ _) | (with_reducible assumption) | (with_reducible exact Fr.of_nil (by assumption)) | (with_reducible refine Fr.drew ?_) | (with_reducible refine Fr.drewN ?_ _) | (with_reducible refine Fr.alloc ?_ _) | (with_reducible refine Fr.set ?_ _ _ (by first | (intros; omega) | (simp; done) | (simp; omega))) | (with_reducible refine Fr.via ?_ (by assumption)) | (with_reducible refine Fr.comp ?_ (by assumption))))⟩
      rw [tok_ret HO.out.2.2.1]
      exact ⟨_, rfl, fun q => absurd (show (3 : Int) = 0 from q) (by decide)⟩
    · rw [if_neg g0]
      have g2 : O.toList.isEmpty = false := by
        rw [Lib.toList_data, HO.out.2.2.1]
        cases o with
        | nil => exact absurd rfl g0
        | cons a b => rfl
      clear g0
      go_enter Try.func36, Try.ntmps36
      go_wp2_with (first
        | (go_at_call 49; refine (small_any _ _).mono ?_; rintro e w1 ⟨rfl, rfl⟩)
        | (go_at_call 50; refine (cap_any _ _).mono ?_; rintro e w1 ⟨rfl, rfl⟩)
        | (go_at_call 53; refine (dig_any _ _).mono ?_; rintro e w1 ⟨rfl, rfl⟩)
        | fail)
      refine (ops_any _).mono ?_
      rintro e w2 ⟨bo, rfl, bk, f2⟩
      obtain ⟨_, _, _⟩ := f2.at (w.heap.size) (by first | assumption | omega | (simp; done) | (simp; omega)); obtain ⟨_, _, _⟩ := f2.at (w.heap.size + 1) (by first | assumption | omega | (simp; done) | (simp; omega))
      have ff2 : Fr Nil w w2 := Fr.trans (by (repeat (first | (with_reducible exact Fr.refl _ _) | (with_reducible assumption) | (with_reducible exact Fr.of_nil (by assumption)) | (with_reducible refine Fr.drew ?_) | (with_reducible refine Fr.drewN ?_ _) | (with_reducible refine Fr.alloc ?_ _) | (with_reducible refine Fr.set ?_ _ _ (by first | (intros; omega) | (simp; done) | (simp; omega))) | (with_reducible refine Fr.via ?_ (by assumption)) | (with_reducible refine Fr.comp ?_ (by assumption))))) f2 (fun _ _ q => q)
      go_wp2_with fail
      refine (HL1.out bo _ bk).mono ?_
      rintro e w3 ⟨rfl, f3⟩
      have ff3 := ff2.comp f3
      obtain ⟨_, _, _⟩ := f3.at ((w.heap.size)) (by first | assumption | omega | (simp; done) | (simp; omega)); obtain ⟨_, _, _⟩ := f3.at ((w.heap.size + 1)) (by first | assumption | omega | (simp; done) | (simp; omega))
      go_wp2_with fail
      refine (puncts_any _).mono ?_
      rintro e w4 ⟨bp, rfl, bk', f4⟩
      have ff4 := ff3.comp f4
      obtain ⟨_, _, _⟩ := f4.at ((w.heap.size)) (by first | assumption | omega | (simp; done) | (simp; omega)); obtain ⟨_, _, _⟩ := f4.at ((w.heap.size + 1)) (by first | assumption | omega | (simp; done) | (simp; omega))
      go_wp2_with fail
      refine (HL2.out bp _ bk').mono ?_
      rintro e w5 ⟨rfl, f5⟩
      have ff5 := ff4.comp f5
      obtain ⟨_, _, _⟩ := f5.at ((w.heap.size)) (by first | assumption | omega | (simp; done) | (simp; omega)); obtain ⟨_, _, _⟩ := f5.at ((w.heap.size + 1)) (by first | assumption | omega | (simp; done) | (simp; omega))
      go_wp2
      refine bodyPost_ret (v := .tuple #[.agg #[.int .i64 4, .string O, .bool false, .int .u64 ((0 : Nat) : Int), .int .i64 (line : Int)], .int .i64 0]) (by simp [results, Try.results36, go_sem, *]) rfl ⟨?_, by (repeat (first | (with_reducible exact Fr.refl _ _) | (with_reducible assumption) | (with_reducible exact Fr.of_nil (by assumption)) | (with_reducible refine Fr.drew ?_) | (with_reducible refine Fr.drewN ?_ _) | (with_reducible refine Fr.alloc ?_ _) | (with_reducible refine Fr.set ?_ _ _ (by first | (intros; omega) | (simp; done) | (simp; omega))) | (with_reducible refine Fr.via ?_ (by assumption)) | (with_reducible refine Fr.comp ?_ (by assumption))))⟩
      rw [tok_ret HO.out.2.2.1]
      exact OneRes.of rfl
theorem one_any : Calls Try.prog 36 #[.string s, .int .i64 at_, .int .i64 line] w fun e w' => OneRes (oneF (s.data.toList.drop at_) line) e ∧ Fr Nil w w' := by
  by_cases h1 : smallC s[at_] = true
  · exact one_word s at_ line w hs hat (.inl h1)
  · rw [Bool.not_eq_true] at h1
    by_cases h2 : capC s[at_] = true
    · exact one_word s at_ line w hs hat (.inr ⟨h1, h2⟩)
    · rw [Bool.not_eq_true] at h2
      by_cases h3 : digC s[at_] = true
      · exact one_digit s at_ line w hs hat h1 h2 h3
      · rw [Bool.not_eq_true] at h3
        by_cases h4 : s[at_].toNat = 35
        · by_cases h5 : ∃ h : at_ + 1 < s.size, s[at_ + 1].toNat = 45
          · obtain ⟨hz, hm⟩ := h5
            by_cases hr : runF (s.data.toList.drop (at_ + 2)) = []
            · exact one_hash2_no s at_ line w hs hat h4 hz hm hr
            · exact one_hash2_some s at_ line w hs hat h4 hz hm hr
          · have hm : s.size ≤ at_ + 1 ∨ ∃ h : at_ + 1 < s.size, s[at_ + 1].toNat ≠ 45 := by
              rcases Nat.lt_or_ge (at_ + 1) s.size with q | q
              · exact .inr ⟨q, fun e => h5 ⟨q, e⟩⟩
              · exact .inl q
            by_cases hr : runF (s.data.toList.drop (at_ + 1)) = []
            · exact one_hash1_no s at_ line w hs hat h4 hm hr
            · exact one_hash1_some s at_ line w hs hat h4 hm hr
        · exact one_sign s at_ line w hs hat h1 h2 h3 h4
end
end Go.Proofs.Ythpenpgcacikaaa
