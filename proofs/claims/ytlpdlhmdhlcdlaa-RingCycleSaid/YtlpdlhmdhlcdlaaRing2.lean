/-
  Contracts of package ring: New, Grow, Alloc, Counts, Begin, End; what a ring is. Conditions: cells lie within the words.
-/
import Derived.Test.YtlpdlhmdhlcdlaaRing1
import Derived.Test.YtlpdlhmdhlcdlaaRingQ
import Derived.Test.YtlpdlhmdhlcdlaaVia
import Derived.Deep.DeepCutAuto
import Derived.StillTailTactics
namespace Go.Proofs.Ytlpdlhmdhlcdlaa
set_option linter.unusedSimpArgs false
set_option linter.unusedVariables false
open Go.RowKit

theorem RingRec.facts {w : World} {rg ba bw u f b n0 n1 n2 n3 : Nat} {l : List Int} (h : RingRec w rg ba bw l u f b n0 n1 n2 n3) :
    w.cell? ⟨rg, 0, none⟩ = some (.pointer (some ⟨ba, 0, none⟩)) ∧ w.cell? ⟨rg, 1, none⟩ = some (.int .i64 (f : Int)) ∧ w.cell? ⟨rg, 2, none⟩ = some (.int .i64 (b : Int)) ∧ w.cell? ⟨rg, 3, none⟩ = some (.int .i64 (n0 : Int)) ∧ w.cell? ⟨rg, 4, none⟩ = some (.int .i64 (n1 : Int)) ∧ w.cell? ⟨rg, 5, none⟩ = some (.int .i64 (n2 : Int)) ∧ w.cell? ⟨rg, 6, none⟩ = some (.int .i64 (n3 : Int)) ∧ (∀ o, w.frozen? ⟨rg, o, none⟩ = false) ∧ rg < w.heap.size := by
  have c0 := h.blk.cell 0
  have c1 := h.blk.cell 1
  have c2 := h.blk.cell 2
  have c3 := h.blk.cell 3
  have c4 := h.blk.cell 4
  have c5 := h.blk.cell 5
  have c6 := h.blk.cell 6
  simp at c0 c1 c2 c3 c4 c5 c6
  exact ⟨c0, c1, c2, c3, c4, c5, c6, h.blk.free, h.blk.lt⟩
def RingIs (w : World) (rg ba bw n : Nat) (S : Seg4) (u : Nat) : Prop := ∃ l f b, RingRec w rg ba bw l u f b S.W.length S.F.length S.G.length S.B.length ∧ RingOf l n f b S
/-- The blocks of a ring. -/
def RS (rg ba bw : Nat) : Nat → Prop := fun x => x = rg ∨ x = ba ∨ x = bw
theorem as_rs {rg ba bw : Nat} {w w' : World} (h : Fr (AS ba bw) w w') : Fr (RS rg ba bw) w w' := h.mono (fun _ _ q => .inr q)
set_option maxRecDepth 100000 in
theorem rturn_03 (rg ba bw : Nat) (l : List Int) (u f b n0 n1 n2 n3 : Nat) (w : World) (h : RingRec w rg ba bw l u f b (n0 + 1) n1 n2 n3) (hs : n0 + n1 + n2 + n3 ≤ 1000000) :
    Calls Try.prog 38 #[.pointer (some ⟨rg, 0, none⟩), .int .i64 0, .int .i64 3] w fun e w' => e = .returned (.tuple #[]) ∧ RingRec w' rg ba bw l u f b n0 n1 n2 (n3 + 1) ∧ Fr (fun x => x = rg) w w' := by
  obtain ⟨c0, c1, c2, c3, c4, c5, c6, cz, clt⟩ := h.facts
  obtain ⟨q1, q2, q3⟩ := h.ne
  have H := Lib.hid h
  have w0 : wrap64 (n0 : Int) = (n0 : Int) := by unfold wrap64; omega
  have w1 : IntKind.i64.wrap (((n0 + 1 : Nat) : Int) - 1) = (n0 : Int) := by rw [IntKind.wrap_i64]; omega
  have w2 : IntKind.i64.wrap ((n3 : Int) + 1) = (n3 : Int) + 1 := by rw [IntKind.wrap_i64]; omega
  have w3 : IntKind.i64.wrap ((n0 : Int) + 1 - 1) = (n0 : Int) := by rw [IntKind.wrap_i64]; omega
  clear h hs
  go_enter Try.func38, Try.ntmps38
  go_wp2_with fail
  go_still_tail 10, (by kernel_rfl)
  change wpList _ _ _ _ _ w.drew
  go_wp2_with fail
  rw [w0]
  obtain ⟨W, hW⟩ : ∃ W, (w.setCell ⟨rg, 3, none⟩ (.int .i64 (n0 : Int))).drew = W := ⟨_, rfl⟩
  rw [hW]
  have bW : Blk W rg #[.pointer (some ⟨ba, 0, none⟩), .int .i64 (f : Int), .int .i64 (b : Int), .int .i64 (n0 : Int), .int .i64 (n1 : Int), .int .i64 (n2 : Int), .int .i64 (n3 : Int)] 68 := by
    rw [← hW]
    (unfold Blk; simp (disch := first | omega | (simp; done) | (simp; omega)) only [hp_drew, hp_drewN, hp_alloc, hp_other, hp_same, hp_new, upd_cells, Option.map_some, (H.out.blk).eq])
    simp
  have fW : Fr (fun x => x = rg) w W := by rw [← hW]; (repeat (first | (with_reducible exact Fr.refl _ _) | (with_reducible assumption) | (with_reducible exact Fr.of_nil (by assumption)) | (with_reducible refine Fr.drew ?_) | (with_reducible refine Fr.drewN ?_ _) | (with_reducible refine Fr.alloc ?_ _) | (with_reducible refine Fr.set ?_ _ _ (by first | (intros; omega) | (simp; done) | (simp; omega))) | (with_reducible refine Fr.via ?_ (by assumption)) | (with_reducible refine Fr.comp ?_ (by assumption))))
  clear hW c0 c1 c2 c3 c4 c5 c6 cz clt
  have c6 := bW.cell 6
  simp at c6
  have cz := bW.free
  have clt := bW.lt
  have HB := Lib.hid bW
  clear bW
  go_still_tail 10, (by kernel_rfl)
  change wpList _ _ _ _ _ W.drew
  go_wp2
  go_end0
  refine ⟨rfl, ⟨?_, H.out.ar.fr (S := fun x => x = rg) (by (repeat (first | (with_reducible exact Fr.refl _ _) | (with_reducible assumption) | (with_reducible exact Fr.of_nil (by assumption)) | (with_reducible refine Fr.drew ?_) | (with_reducible refine Fr.drewN ?_ _) | (with_reducible refine Fr.alloc ?_ _) | (with_reducible refine Fr.set ?_ _ _ (by first | (intros; omega) | (simp; done) | (simp; omega))) | (with_reducible refine Fr.via ?_ (by assumption)) | (with_reducible refine Fr.comp ?_ (by assumption))))) (fun q => q1 q.symm) (fun q => q2 q.symm), H.out.hl, H.out.hu⟩, by (repeat (first | (with_reducible exact Fr.refl _ _) | (with_reducible assumption) | (with_reducible exact Fr.of_nil (by assumption)) | (with_reducible refine Fr.drew ?_) | (with_reducible refine Fr.drewN ?_ _) | (with_reducible refine Fr.alloc ?_ _) | (with_reducible refine Fr.set ?_ _ _ (by first | (intros; omega) | (simp; done) | (simp; omega))) | (with_reducible refine Fr.via ?_ (by assumption)) | (with_reducible refine Fr.comp ?_ (by assumption))))⟩
  (unfold Blk; simp (disch := first | omega | (simp; done) | (simp; omega)) only [hp_drew, hp_drewN, hp_alloc, hp_other, hp_same, hp_new, upd_cells, Option.map_some, (HB.out).eq])
  simp
set_option maxRecDepth 100000 in
theorem rturn_12 (rg ba bw : Nat) (l : List Int) (u f b n0 n1 n2 n3 : Nat) (w : World) (h : RingRec w rg ba bw l u f b n0 (n1 + 1) n2 n3) (hs : n0 + n1 + n2 + n3 ≤ 1000000) :
    Calls Try.prog 38 #[.pointer (some ⟨rg, 0, none⟩), .int .i64 1, .int .i64 2] w fun e w' => e = .returned (.tuple #[]) ∧ RingRec w' rg ba bw l u f b n0 n1 (n2 + 1) n3 ∧ Fr (fun x => x = rg) w w' := by
  obtain ⟨c0, c1, c2, c3, c4, c5, c6, cz, clt⟩ := h.facts
  obtain ⟨q1, q2, q3⟩ := h.ne
  have H := Lib.hid h
  have w0 : wrap64 (n1 : Int) = (n1 : Int) := by unfold wrap64; omega
  have w1 : IntKind.i64.wrap (((n1 + 1 : Nat) : Int) - 1) = (n1 : Int) := by rw [IntKind.wrap_i64]; omega
  have w2 : IntKind.i64.wrap ((n2 : Int) + 1) = (n2 : Int) + 1 := by rw [IntKind.wrap_i64]; omega
  have w3 : IntKind.i64.wrap ((n1 : Int) + 1 - 1) = (n1 : Int) := by rw [IntKind.wrap_i64]; omega
  clear h hs
  go_enter Try.func38, Try.ntmps38
  go_wp2_with fail
  go_still_tail 10, (by kernel_rfl)
  change wpList _ _ _ _ _ w.drew
  go_wp2_with fail
  rw [w0]
  obtain ⟨W, hW⟩ : ∃ W, (w.setCell ⟨rg, 4, none⟩ (.int .i64 (n1 : Int))).drew = W := ⟨_, rfl⟩
  rw [hW]
  have bW : Blk W rg #[.pointer (some ⟨ba, 0, none⟩), .int .i64 (f : Int), .int .i64 (b : Int), .int .i64 (n0 : Int), .int .i64 (n1 : Int), .int .i64 (n2 : Int), .int .i64 (n3 : Int)] 68 := by
    rw [← hW]
    (unfold Blk; simp (disch := first | omega | (simp; done) | (simp; omega)) only [hp_drew, hp_drewN, hp_alloc, hp_other, hp_same, hp_new, upd_cells, Option.map_some, (H.out.blk).eq])
    simp
  have fW : Fr (fun x => x = rg) w W := by rw [← hW]; (repeat (first | (with_reducible exact Fr.refl _ _) | (with_reducible assumption) | (with_reducible exact Fr.of_nil (by assumption)) | (with_reducible refine Fr.drew ?_) | (with_reducible refine Fr.drewN ?_ _) | (with_reducible refine Fr.alloc ?_ _) | (with_reducible refine Fr.set ?_ _ _ (by first | (intros; omega) | (simp; done) | (simp; omega))) | (with_reducible refine Fr.via ?_ (by assumption)) | (with_reducible refine Fr.comp ?_ (by assumption))))
  clear hW c0 c1 c2 c3 c4 c5 c6 cz clt
  have c5 := bW.cell 5
  simp at c5
  have cz := bW.free
  have clt := bW.lt
  have HB := Lib.hid bW
  clear bW
  go_still_tail 10, (by kernel_rfl)
  change wpList _ _ _ _ _ W.drew
  go_wp2
  go_end0
  refine ⟨rfl, ⟨?_, H.out.ar.fr (S := fun x => x = rg) (by (repeat (first | (with_reducible exact Fr.refl _ _) | (with_reducible assumption) | (with_reducible exact Fr.of_nil (by assumption)) | (with_reducible refine Fr.drew ?_) | (with_reducible refine Fr.drewN ?_ _) | (with_reducible refine Fr.alloc ?_ _) | (with_reducible refine Fr.set ?_ _ _ (by first | (intros; omega) | (simp; done) | (simp; omega))) | (with_reducible refine Fr.via ?_ (by assumption)) | (with_reducible refine Fr.comp ?_ (by assumption))))) (fun q => q1 q.symm) (fun q => q2 q.symm), H.out.hl, H.out.hu⟩, by (repeat (first | (with_reducible exact Fr.refl _ _) | (with_reducible assumption) | (with_reducible exact Fr.of_nil (by assumption)) | (with_reducible refine Fr.drew ?_) | (with_reducible refine Fr.drewN ?_ _) | (with_reducible refine Fr.alloc ?_ _) | (with_reducible refine Fr.set ?_ _ _ (by first | (intros; omega) | (simp; done) | (simp; omega))) | (with_reducible refine Fr.via ?_ (by assumption)) | (with_reducible refine Fr.comp ?_ (by assumption))))⟩
  (unfold Blk; simp (disch := first | omega | (simp; done) | (simp; omega)) only [hp_drew, hp_drewN, hp_alloc, hp_other, hp_same, hp_new, upd_cells, Option.map_some, (HB.out).eq])
  simp
set_option maxRecDepth 100000 in
theorem rturn_23 (rg ba bw : Nat) (l : List Int) (u f b n0 n1 n2 n3 : Nat) (w : World) (h : RingRec w rg ba bw l u f b n0 n1 (n2 + 1) n3) (hs : n0 + n1 + n2 + n3 ≤ 1000000) :
    Calls Try.prog 38 #[.pointer (some ⟨rg, 0, none⟩), .int .i64 2, .int .i64 3] w fun e w' => e = .returned (.tuple #[]) ∧ RingRec w' rg ba bw l u f b n0 n1 n2 (n3 + 1) ∧ Fr (fun x => x = rg) w w' := by
  obtain ⟨c0, c1, c2, c3, c4, c5, c6, cz, clt⟩ := h.facts
  obtain ⟨q1, q2, q3⟩ := h.ne
  have H := Lib.hid h
  have w0 : wrap64 (n2 : Int) = (n2 : Int) := by unfold wrap64; omega
  have w1 : IntKind.i64.wrap (((n2 + 1 : Nat) : Int) - 1) = (n2 : Int) := by rw [IntKind.wrap_i64]; omega
  have w2 : IntKind.i64.wrap ((n3 : Int) + 1) = (n3 : Int) + 1 := by rw [IntKind.wrap_i64]; omega
  have w3 : IntKind.i64.wrap ((n2 : Int) + 1 - 1) = (n2 : Int) := by rw [IntKind.wrap_i64]; omega
  clear h hs
  go_enter Try.func38, Try.ntmps38
  go_wp2_with fail
  go_still_tail 10, (by kernel_rfl)
  change wpList _ _ _ _ _ w.drew
  go_wp2_with fail
  rw [w0]
  obtain ⟨W, hW⟩ : ∃ W, (w.setCell ⟨rg, 5, none⟩ (.int .i64 (n2 : Int))).drew = W := ⟨_, rfl⟩
  rw [hW]
  have bW : Blk W rg #[.pointer (some ⟨ba, 0, none⟩), .int .i64 (f : Int), .int .i64 (b : Int), .int .i64 (n0 : Int), .int .i64 (n1 : Int), .int .i64 (n2 : Int), .int .i64 (n3 : Int)] 68 := by
    rw [← hW]
    (unfold Blk; simp (disch := first | omega | (simp; done) | (simp; omega)) only [hp_drew, hp_drewN, hp_alloc, hp_other, hp_same, hp_new, upd_cells, Option.map_some, (H.out.blk).eq])
    simp
  have fW : Fr (fun x => x = rg) w W := by rw [← hW]; (repeat (first | (with_reducible exact Fr.refl _ _) | (with_reducible assumption) | (with_reducible exact Fr.of_nil (by assumption)) | (with_reducible refine Fr.drew ?_) | (with_reducible refine Fr.drewN ?_ _) | (with_reducible refine Fr.alloc ?_ _) | (with_reducible refine Fr.set ?_ _ _ (by first | (intros; omega) | (simp; done) | (simp; omega))) | (with_reducible refine Fr.via ?_ (by assumption)) | (with_reducible refine Fr.comp ?_ (by assumption))))
  clear hW c0 c1 c2 c3 c4 c5 c6 cz clt
  have c6 := bW.cell 6
  simp at c6
  have cz := bW.free
  have clt := bW.lt
  have HB := Lib.hid bW
  clear bW
  go_still_tail 10, (by kernel_rfl)
  change wpList _ _ _ _ _ W.drew
  go_wp2
  go_end0
  refine ⟨rfl, ⟨?_, H.out.ar.fr (S := fun x => x = rg) (by (repeat (first | (with_reducible exact Fr.refl _ _) | (with_reducible assumption) | (with_reducible exact Fr.of_nil (by assumption)) | (with_reducible refine Fr.drew ?_) | (with_reducible refine Fr.drewN ?_ _) | (with_reducible refine Fr.alloc ?_ _) | (with_reducible refine Fr.set ?_ _ _ (by first | (intros; omega) | (simp; done) | (simp; omega))) | (with_reducible refine Fr.via ?_ (by assumption)) | (with_reducible refine Fr.comp ?_ (by assumption))))) (fun q => q1 q.symm) (fun q => q2 q.symm), H.out.hl, H.out.hu⟩, by (repeat (first | (with_reducible exact Fr.refl _ _) | (with_reducible assumption) | (with_reducible exact Fr.of_nil (by assumption)) | (with_reducible refine Fr.drew ?_) | (with_reducible refine Fr.drewN ?_ _) | (with_reducible refine Fr.alloc ?_ _) | (with_reducible refine Fr.set ?_ _ _ (by first | (intros; omega) | (simp; done) | (simp; omega))) | (with_reducible refine Fr.via ?_ (by assumption)) | (with_reducible refine Fr.comp ?_ (by assumption))))⟩
  (unfold Blk; simp (disch := first | omega | (simp; done) | (simp; omega)) only [hp_drew, hp_drewN, hp_alloc, hp_other, hp_same, hp_new, upd_cells, Option.map_some, (HB.out).eq])
  simp
section
variable (rg ba bw n : Nat) (S : Seg4) (u : Nat) (w : World)
set_option maxRecDepth 100000 in
theorem rgrow_out (h : RingIs w rg ba bw n S u) (c : Int) (hc : c < 1 ∨ (n : Int) - 3 < c) :
    Calls Try.prog 9 #[.pointer (some ⟨rg, 0, none⟩), .int .i64 c] w fun e w' => e = .returned (.int .i64 1) ∧ Fr Nil w w' := by
  obtain ⟨l, f, b, h, hO⟩ := h
  obtain ⟨c0, c1, c2, c3, c4, c5, c6, cz, clt⟩ := h.facts
  have hl := h.hl
  have hn := hO.len
  by_cases k1 : c < 1
  · have d1 := decide_eq_true k1
    clear hc h hO
    go_enter Try.func9, Try.ntmps9
    go_wp2
    go_ret
    exact ⟨rfl, by (repeat (first | (with_reducible exact Fr.refl _ _) | (with_reducible assumption) | (with_reducible exact Fr.of_nil (by assumption)) | (with_reducible refine Fr.drew ?_) | (with_reducible refine Fr.drewN ?_ _) | (with_reducible refine Fr.alloc ?_ _) | (with_reducible refine Fr.set ?_ _ _ (by first | (intros; omega) | (simp; done) | (simp; omega))) | (with_reducible refine Fr.via ?_ (by assumption)) | (with_reducible refine Fr.comp ?_ (by assumption))))⟩
  · have d1 := decide_eq_false k1
    have k2 : (n : Int) - 3 < c := by omega
    have H := Lib.hid h
    have HN := Lib.hid hn
    have w1 : IntKind.i64.wrap ((n : Int) - 3) = (n : Int) - 3 := by rw [IntKind.wrap_i64]; omega
    clear hc h hO hn
    go_enter Try.func9, Try.ntmps9
    go_wp2_with fail
    refine (len_any ba bw l u _ H.out.ar).mono ?_
    rw [HN.out]
    rintro e w1 ⟨rfl, rfl⟩
    go_wp2
    go_ret
    exact ⟨rfl, by (repeat (first | (with_reducible exact Fr.refl _ _) | (with_reducible assumption) | (with_reducible exact Fr.of_nil (by assumption)) | (with_reducible refine Fr.drew ?_) | (with_reducible refine Fr.drewN ?_ _) | (with_reducible refine Fr.alloc ?_ _) | (with_reducible refine Fr.set ?_ _ _ (by first | (intros; omega) | (simp; done) | (simp; omega))) | (with_reducible refine Fr.via ?_ (by assumption)) | (with_reducible refine Fr.comp ?_ (by assumption))))⟩
set_option maxRecDepth 100000 in
set_option maxHeartbeats 4000000 in
theorem rgrow_in (h : RingIs w rg ba bw n S u) (c : Nat) (hc1 : 1 ≤ c) (hc2 : c + 3 ≤ n) (hap : ∀ x ∈ S.all, c + 3 ≤ x ∨ x + 3 ≤ c) (hu : u ≤ 900000000000) :
    Calls Try.prog 9 #[.pointer (some ⟨rg, 0, none⟩), .int .i64 (c : Int)] w fun e w' => e = .returned (.int .i64 0) ∧ (∃ u', RingIs w' rg ba bw n { S with W := c :: S.W } u' ∧ u' ≤ u + 20) ∧ Fr (RS rg ba bw) w w' := by
  obtain ⟨l, f, b, h, hO⟩ := h
  obtain ⟨c0, c1, c2, c3, c4, c5, c6, cz, clt⟩ := h.facts
  obtain ⟨q1, q2, q3⟩ := h.ne
  have hl := h.hl
  have hn := hO.len
  have hnum := hO.num
  have hcin : CellsIn n (c :: S.all) := ⟨List.pairwise_cons.2 ⟨hap, hO.cin.pw⟩, fun x hx => by
    rcases List.mem_cons.1 hx with rfl | hx
    · exact ⟨hc1, hc2⟩
    · exact hO.cin.le x hx⟩
  have hnum2 := S.num_eq
  have hn5 : n ≤ 100000 := by omega
  obtain ⟨N0, hN0⟩ : ∃ N0, S.W.length = N0 := ⟨_, rfl⟩
  obtain ⟨N1, hN1⟩ : ∃ N1, S.F.length = N1 := ⟨_, rfl⟩
  obtain ⟨N2, hN2⟩ : ∃ N2, S.G.length = N2 := ⟨_, rfl⟩
  obtain ⟨N3, hN3⟩ : ∃ N3, S.B.length = N3 := ⟨_, rfl⟩
  unfold Seg4.num at hnum hnum2
  rw [hN0, hN1, hN2, hN3] at h hnum hnum2
  rw [hN0] at c3
  rw [hN1] at c4
  rw [hN2] at c5
  rw [hN3] at c6
  have HE := Lib.hid (And.intro hN0 (And.intro hN1 (And.intro hN2 (And.intro hN3 (And.intro hO (And.intro hcin hnum2))))))
  have k1 : ¬ (c : Int) < 1 := by omega
  have k2 : ¬ (n : Int) - 3 < (c : Int) := by omega
  have d1 := decide_eq_false k1
  have w1 : IntKind.i64.wrap ((n : Int) - 3) = (n : Int) - 3 := by rw [IntKind.wrap_i64]; omega
  have wn : IntKind.i64.wrap ((N0 : Int) + 1) = (N0 : Int) + 1 := by rw [IntKind.wrap_i64]; omega
  have H := Lib.hid h
  have HN := Lib.hid hn
  clear h hO hcin hn hN0 hN1 hN2 hN3 hap hnum2
  go_enter Try.func9, Try.ntmps9
  go_wp2_with fail
  refine (len_any ba bw l u _ H.out.ar).mono ?_
  rw [HN.out]
  rintro e w1 ⟨rfl, rfl⟩
  go_wp2_with fail
  refine (rall_any rg ba bw l u f b N0 N1 N2 N3 _ H.out (by omega)).mono ?_
  rintro e w2 ⟨rfl, f2⟩
  obtain ⟨m, hm⟩ : ∃ m, N0 + (N1 + N2 + N3) = m := ⟨_, rfl⟩
  rw [hm]
  have H2 := Lib.hid (And.intro (H.out.fr f2 (fun q => q) (fun q => q) (fun q => q)) f2)
  clear f2 c0 c1 c2 c3 c4 c5 c6 cz clt
  rcases Nat.eq_zero_or_pos m with rfl | hmp
  · go_wp2_with fail
    refine (rlink_any rg ba bw l u f b N0 N1 N2 N3 _ H2.out.1 c c (by rw [HN.out]; exact hc2) (by rw [HN.out]; exact hc2) (by omega)).mono ?_
    rintro e w3 ⟨rfl, h3, f3⟩
    obtain ⟨c0, c1, c2, c3, c4, c5, c6, cz, clt⟩ := h3.facts
    have H3 := Lib.hid (And.intro h3 f3)
    clear h3 f3
    go_wp2_with fail
    obtain ⟨W, hW⟩ : ∃ W, ((w3).setCell ⟨rg, 1, none⟩ (.int .i64 (c : Int))).setCell ⟨rg, 2, none⟩ (.int .i64 (c : Int)) = W := ⟨_, rfl⟩
    rw [hW]
    have bW : Blk W rg #[.pointer (some ⟨ba, 0, none⟩), .int .i64 (c : Int), .int .i64 (c : Int), .int .i64 (N0 : Int), .int .i64 (N1 : Int), .int .i64 (N2 : Int), .int .i64 (N3 : Int)] 68 := by
      rw [← hW]
      (unfold Blk; simp (disch := first | omega | (simp; done) | (simp; omega)) only [hp_drew, hp_drewN, hp_alloc, hp_other, hp_same, hp_new, upd_cells, Option.map_some, (H3.out.1.blk).eq])
      simp
    have fW : Fr (fun x => x = rg) w3 W := by rw [← hW]; (repeat (first | (with_reducible exact Fr.refl _ _) | (with_reducible assumption) | (with_reducible exact Fr.of_nil (by assumption)) | (with_reducible refine Fr.drew ?_) | (with_reducible refine Fr.drewN ?_ _) | (with_reducible refine Fr.alloc ?_ _) | (with_reducible refine Fr.set ?_ _ _ (by first | (intros; omega) | (simp; done) | (simp; omega))) | (with_reducible refine Fr.via ?_ (by assumption)) | (with_reducible refine Fr.comp ?_ (by assumption))))
    clear hW c0 c1 c2 c3 c4 c5 c6 cz clt
    have c3 := bW.cell 3
    simp at c3
    have cz := bW.free
    have clt := bW.lt
    have HB := Lib.hid bW
    clear bW
    go_still_tail 9, (by kernel_rfl)
    change wpList _ _ _ _ _ W.drew
    go_wp2
    go_ret
    all_goals
      have hallE : S.all = [] := List.length_eq_zero_iff.1 (by have := HE.out.2.2.2.2.2.2; omega)
      have hWE : S.W = [] := by unfold Seg4.all at hallE; simp at hallE; exact hallE.1
      have hFE : S.F ++ (S.G ++ S.B) = [] := by unfold Seg4.all at hallE; simp at hallE ⊢; exact hallE.2
      have hBE : S.B = [] := by simp at hFE; exact hFE.2.2
      have hallN : ({ S with W := c :: S.W } : Seg4).all = [c] := by unfold Seg4.all; simp only [hFE, hWE, List.append_nil]
      refine ⟨rfl, ⟨_, ⟨lkL l c c, c, c, ⟨?_, H3.out.1.ar.fr (S := fun x => x = rg) (by (repeat (first | (with_reducible exact Fr.refl _ _) | (with_reducible assumption) | (with_reducible exact Fr.of_nil (by assumption)) | (with_reducible refine Fr.drew ?_) | (with_reducible refine Fr.drewN ?_ _) | (with_reducible refine Fr.alloc ?_ _) | (with_reducible refine Fr.set ?_ _ _ (by first | (intros; omega) | (simp; done) | (simp; omega))) | (with_reducible refine Fr.via ?_ (by assumption)) | (with_reducible refine Fr.comp ?_ (by assumption))))) (fun q => q1 q.symm) (fun q => q2 q.symm), H3.out.1.hl, H3.out.1.hu⟩, ⟨by rw [lkL_len]; exact HN.out, by rw [hallN]; exact cyc_one (by rw [HN.out]; exact hc2), by rw [hallN]; exact ⟨List.pairwise_singleton _ _, fun x hx => by have e : x = c := (by simpa using hx); rw [e]; exact ⟨hc1, hc2⟩⟩, fun _ => ⟨by rw [hallN] <;> rfl, by rw [hallN]; simp only [hBE, List.nil_append] <;> rfl⟩⟩⟩, by omega⟩, ?_⟩
      · rw [List.length_cons, HE.out.1, HE.out.2.1, HE.out.2.2.1, HE.out.2.2.2.1]
        (unfold Blk; simp (disch := first | omega | (simp; done) | (simp; omega)) only [hp_drew, hp_drewN, hp_alloc, hp_other, hp_same, hp_new, upd_cells, Option.map_some, (HB.out).eq])
        simp
      · exact ((H2.out.2.of_nil.comp (as_rs H3.out.2)).comp (show Fr (RS rg ba bw) w3 _ from Fr.mono (S := fun x => x = rg) (by (repeat (first | (with_reducible exact Fr.refl _ _) | (with_reducible assumption) | (with_reducible exact Fr.of_nil (by assumption)) | (with_reducible refine Fr.drew ?_) | (with_reducible refine Fr.drewN ?_ _) | (with_reducible refine Fr.alloc ?_ _) | (with_reducible refine Fr.set ?_ _ _ (by first | (intros; omega) | (simp; done) | (simp; omega))) | (with_reducible refine Fr.via ?_ (by assumption)) | (with_reducible refine Fr.comp ?_ (by assumption))))) (fun _ _ q => .inl q)))
  · have hne : Hid (S.all ≠ []) := fun q => by have := HE.out.2.2.2.2.2.2; rw [q] at this; simp at this; omega
    have hO := HE.out.2.2.2.2.1
    obtain ⟨a, r, har⟩ := num_head hne.out
    obtain ⟨hf, hb⟩ := hO.ends hne.out
    rw [har, headN_cons] at hf
    have hcyc := hO.cyc
    have hcin := HE.out.2.2.2.2.2.1
    rw [har] at hcyc hcin
    have hpa := cyc_prev hcyc
    have hput := cyc_put HN.out hcin hcyc
    have hpm := hcin.le _ (List.mem_cons_of_mem _ (last_mem (L := a :: r) (by simp)))
    have ham := hcin.le a (by simp)
    obtain ⟨P, hP⟩ : ∃ P, lastN (a :: r) = P := ⟨_, rfl⟩
    rw [hP] at hpa hput hpm
    subst hf
    have HP := Lib.hid (And.intro hpa (And.intro hput (And.intro hcin (And.intro har hb))))
    have e1 : ¬ (m : Int) = 0 := by omega
    have e2 : ((m : Int) == 0) = false := by simp; omega
    obtain ⟨c0, c1, c2, c3, c4, c5, c6, cz, clt⟩ := H2.out.1.facts
    clear hpa hput hcin har hb hP hcyc hO
    go_wp2_with fail
    refine (rput_any rg ba bw l u f b N0 N1 N2 N3 _ H2.out.1 c f P (by rw [HN.out]; exact hc2) (by rw [HN.out]; omega) (by rw [HN.out]; omega) HP.out.1 (by omega)).mono ?_
    rintro e w3 ⟨rfl, h3, f3⟩
    obtain ⟨c0, c1, c2, c3, c4, c5, c6, cz, clt⟩ := h3.facts
    have H3 := Lib.hid (And.intro h3 f3)
    clear h3 f3
    have hallN0 : ({ S with W := c :: S.W } : Seg4).all = c :: f :: r := by
      have := HP.out.2.2.2.1
      unfold Seg4.all at this ⊢
      simp only [List.cons_append, this]
    have hallN := Lib.hid hallN0
    clear hallN0
    rcases Nat.eq_zero_or_pos N3 with rfl | hN3p
    · go_wp2_with fail
      obtain ⟨W, hW⟩ : ∃ W, ((w3).setCell ⟨rg, 1, none⟩ (.int .i64 (c : Int))).setCell ⟨rg, 2, none⟩ (.int .i64 (c : Int)) = W := ⟨_, rfl⟩
      rw [hW]
      have bW : Blk W rg #[.pointer (some ⟨ba, 0, none⟩), .int .i64 (c : Int), .int .i64 (c : Int), .int .i64 (N0 : Int), .int .i64 (N1 : Int), .int .i64 (N2 : Int), .int .i64 (0 : Int)] 68 := by
        rw [← hW]
        (unfold Blk; simp (disch := first | omega | (simp; done) | (simp; omega)) only [hp_drew, hp_drewN, hp_alloc, hp_other, hp_same, hp_new, upd_cells, Option.map_some, (H3.out.1.blk).eq])
        simp
      have fW : Fr (fun x => x = rg) w3 W := by rw [← hW]; (repeat (first | (with_reducible exact Fr.refl _ _) | (with_reducible assumption) | (with_reducible exact Fr.of_nil (by assumption)) | (with_reducible refine Fr.drew ?_) | (with_reducible refine Fr.drewN ?_ _) | (with_reducible refine Fr.alloc ?_ _) | (with_reducible refine Fr.set ?_ _ _ (by first | (intros; omega) | (simp; done) | (simp; omega))) | (with_reducible refine Fr.via ?_ (by assumption)) | (with_reducible refine Fr.comp ?_ (by assumption))))
      clear hW c0 c1 c2 c3 c4 c5 c6 cz clt
      have c3 := bW.cell 3
      simp at c3
      have cz := bW.free
      have clt := bW.lt
      have HB := Lib.hid bW
      clear bW
      go_still_tail 9, (by kernel_rfl)
      change wpList _ _ _ _ _ W.drew
      go_wp2
      go_ret
      all_goals
        have hBE : S.B = [] := List.length_eq_zero_iff.1 HE.out.2.2.2.1
        refine ⟨rfl, ⟨_, ⟨_, c, c, ⟨?_, H3.out.1.ar.fr (S := fun x => x = rg) (by (repeat (first | (with_reducible exact Fr.refl _ _) | (with_reducible assumption) | (with_reducible exact Fr.of_nil (by assumption)) | (with_reducible refine Fr.drew ?_) | (with_reducible refine Fr.drewN ?_ _) | (with_reducible refine Fr.alloc ?_ _) | (with_reducible refine Fr.set ?_ _ _ (by first | (intros; omega) | (simp; done) | (simp; omega))) | (with_reducible refine Fr.via ?_ (by assumption)) | (with_reducible refine Fr.comp ?_ (by assumption))))) (fun q => q1 q.symm) (fun q => q2 q.symm), H3.out.1.hl, H3.out.1.hu⟩, ⟨by rw [lkL_len, lkL_len]; exact HN.out, by rw [hallN.out]; exact HP.out.2.1, by rw [hallN.out]; exact HP.out.2.2.1, fun _ => ⟨by rw [hallN.out] <;> rfl, by rw [hallN.out]; simp only [hBE, List.nil_append] <;> rfl⟩⟩⟩, by omega⟩, ?_⟩
        · rw [List.length_cons, HE.out.1, HE.out.2.1, HE.out.2.2.1, HE.out.2.2.2.1]
          (unfold Blk; simp (disch := first | omega | (simp; done) | (simp; omega)) only [hp_drew, hp_drewN, hp_alloc, hp_other, hp_same, hp_new, upd_cells, Option.map_some, (HB.out).eq])
          simp
        · exact ((H2.out.2.of_nil.comp (as_rs H3.out.2)).comp (show Fr (RS rg ba bw) w3 _ from Fr.mono (S := fun x => x = rg) (by (repeat (first | (with_reducible exact Fr.refl _ _) | (with_reducible assumption) | (with_reducible exact Fr.of_nil (by assumption)) | (with_reducible refine Fr.drew ?_) | (with_reducible refine Fr.drewN ?_ _) | (with_reducible refine Fr.alloc ?_ _) | (with_reducible refine Fr.set ?_ _ _ (by first | (intros; omega) | (simp; done) | (simp; omega))) | (with_reducible refine Fr.via ?_ (by assumption)) | (with_reducible refine Fr.comp ?_ (by assumption))))) (fun _ _ q => .inl q)))
    · have e3 : ¬ (N3 : Int) = 0 := by omega
      have e4 : ((N3 : Int) == 0) = false := by simp; omega
      go_wp2_with fail
      obtain ⟨W, hW⟩ : ∃ W, (w3).setCell ⟨rg, 1, none⟩ (.int .i64 (c : Int)) = W := ⟨_, rfl⟩
      rw [hW]
      have bW : Blk W rg #[.pointer (some ⟨ba, 0, none⟩), .int .i64 (c : Int), .int .i64 (b : Int), .int .i64 (N0 : Int), .int .i64 (N1 : Int), .int .i64 (N2 : Int), .int .i64 (N3 : Int)] 68 := by
        rw [← hW]
        (unfold Blk; simp (disch := first | omega | (simp; done) | (simp; omega)) only [hp_drew, hp_drewN, hp_alloc, hp_other, hp_same, hp_new, upd_cells, Option.map_some, (H3.out.1.blk).eq])
        simp
      have fW : Fr (fun x => x = rg) w3 W := by rw [← hW]; (repeat (first | (with_reducible exact Fr.refl _ _) | (with_reducible assumption) | (with_reducible exact Fr.of_nil (by assumption)) | (with_reducible refine Fr.drew ?_) | (with_reducible refine Fr.drewN ?_ _) | (with_reducible refine Fr.alloc ?_ _) | (with_reducible refine Fr.set ?_ _ _ (by first | (intros; omega) | (simp; done) | (simp; omega))) | (with_reducible refine Fr.via ?_ (by assumption)) | (with_reducible refine Fr.comp ?_ (by assumption))))
      clear hW c0 c1 c2 c3 c4 c5 c6 cz clt
      have c3 := bW.cell 3
      simp at c3
      have cz := bW.free
      have clt := bW.lt
      have HB := Lib.hid bW
      clear bW
      go_still_tail 9, (by kernel_rfl)
      change wpList _ _ _ _ _ W.drew
      go_wp2
      go_ret
      all_goals
        have hBN : S.B ≠ [] := fun q => by have := HE.out.2.2.2.1; rw [q] at this; simp at this; omega
        obtain ⟨bb, br, hbr⟩ := num_head hBN
        refine ⟨rfl, ⟨_, ⟨_, c, b, ⟨?_, H3.out.1.ar.fr (S := fun x => x = rg) (by (repeat (first | (with_reducible exact Fr.refl _ _) | (with_reducible assumption) | (with_reducible exact Fr.of_nil (by assumption)) | (with_reducible refine Fr.drew ?_) | (with_reducible refine Fr.drewN ?_ _) | (with_reducible refine Fr.alloc ?_ _) | (with_reducible refine Fr.set ?_ _ _ (by first | (intros; omega) | (simp; done) | (simp; omega))) | (with_reducible refine Fr.via ?_ (by assumption)) | (with_reducible refine Fr.comp ?_ (by assumption))))) (fun q => q1 q.symm) (fun q => q2 q.symm), H3.out.1.hl, H3.out.1.hu⟩, ⟨by rw [lkL_len, lkL_len]; exact HN.out, by rw [hallN.out]; exact HP.out.2.1, by rw [hallN.out]; exact HP.out.2.2.1, fun _ => ⟨by rw [hallN.out] <;> rfl, by have := HP.out.2.2.2.2; rw [hbr] at this ⊢; exact this⟩⟩⟩, by omega⟩, ?_⟩
        · rw [List.length_cons, HE.out.1, HE.out.2.1, HE.out.2.2.1, HE.out.2.2.2.1]
          (unfold Blk; simp (disch := first | omega | (simp; done) | (simp; omega)) only [hp_drew, hp_drewN, hp_alloc, hp_other, hp_same, hp_new, upd_cells, Option.map_some, (HB.out).eq])
          simp
        · exact ((H2.out.2.of_nil.comp (as_rs H3.out.2)).comp (show Fr (RS rg ba bw) w3 _ from Fr.mono (S := fun x => x = rg) (by (repeat (first | (with_reducible exact Fr.refl _ _) | (with_reducible assumption) | (with_reducible exact Fr.of_nil (by assumption)) | (with_reducible refine Fr.drew ?_) | (with_reducible refine Fr.drewN ?_ _) | (with_reducible refine Fr.alloc ?_ _) | (with_reducible refine Fr.set ?_ _ _ (by first | (intros; omega) | (simp; done) | (simp; omega))) | (with_reducible refine Fr.via ?_ (by assumption)) | (with_reducible refine Fr.comp ?_ (by assumption))))) (fun _ _ q => .inl q)))
end
end Go.Proofs.Ytlpdlhmdhlcdlaa
