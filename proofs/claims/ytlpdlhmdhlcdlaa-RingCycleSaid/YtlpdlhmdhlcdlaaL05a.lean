/-
  Layer 5: rows of numbers held beside one another, ring.New. Conditions: short rows.
-/
import Derived.Test.YtlpdlhmdhlcdlaaRing8
namespace Go.Proofs.Ytlpdlhmdhlcdlaa
set_option linter.unusedSimpArgs false
set_option linter.unusedVariables false
open Go.RowKit

/-- A row of numbers, readable. -/
def RowV (w : World) (v : Value) (L : List Nat) : Prop := ∃ a cap, v = .slice a L.length cap ∧ ∀ i (h : i < L.length), ∃ g, a = some ⟨g, 0, none⟩ ∧ w.cell? ⟨g, i, none⟩ = some (.int .i64 ((L[i] : Nat) : Int))
theorem RowV.frS {S : Nat → Prop} {w w' : World} {v : Value} {L : List Nat} (h : RowV w v L) (f : Fr S w w') (hs : ∀ g, v.ownBlock = some g → ¬ S g) : RowV w' v L := by
  obtain ⟨a, cap, rfl, hc⟩ := h
  refine ⟨a, cap, rfl, fun i hi => ?_⟩
  obtain ⟨g, rfl, e⟩ := hc i hi
  refine ⟨g, rfl, ?_⟩
  rw [World.cell?_of_block (f.block g (World.block_lt_of_cell? w _ e) (hs g rfl))]
  exact e
theorem RowV.fr {w w' : World} {v : Value} {L : List Nat} (h : RowV w v L) (f : Fr Nil w w') : RowV w' v L := h.frS f (fun _ _ q => q.elim)
theorem RowN.toV {base : Nat} {w : World} {v : Value} {L : List Nat} (h : RowN base w v L) : RowV w v L := by
  have hh := h
  rcases h.2 with ⟨rfl, hz⟩ | ⟨g, cap, cur, rfl, _⟩
  · exact ⟨none, 0, by rw [hz], fun i hi => by omega⟩
  · refine ⟨_, cap, rfl, fun i hi => ⟨g, rfl, ?_⟩⟩
    have := World.ownsRow.cellAt hh i (by omega)
    rw [this]
    simp [natV, hi]
theorem RowN.own {base : Nat} {w : World} {v : Value} {L : List Nat} (h : RowN base w v L) : ∀ g, v.ownBlock = some g → base ≤ g ∧ g < w.heap.size := fun g hg => World.ownsRow.lt h g hg
theorem RowV.nil (w : World) : RowV w (.slice none 0 0) [] := ⟨none, 0, rfl, fun i hi => by simp at hi⟩
theorem RowV.one {w : World} {g x cap : Nat} (h : w.cell? ⟨g, 0, none⟩ = some (.int .i64 (x : Int))) : RowV w (.slice (some ⟨g, 0, none⟩) 1 cap) [x] := ⟨_, cap, rfl, fun i hi => ⟨g, rfl, by
  simp at hi
  subst hi
  exact h⟩⟩
theorem ints_any (A B : List Nat) (va vb : Value) (w : World) (h1 : RowV w va A) (h2 : RowV w vb B) (hl : A.length ≤ 1000000) :
    Calls Try.prog 12 #[va, vb] w fun e w' => e = .returned (.bool (decide (A = B))) ∧ Fr Nil w w' := by
  obtain ⟨a1, k1, rfl, r1⟩ := h1
  obtain ⟨a2, k2, rfl, r2⟩ := h2
  by_cases hlen : A.length = B.length
  · obtain ⟨N, hN⟩ : ∃ N, A.length = N := ⟨_, rfl⟩
    have hNB : B.length = N := by rw [← hlen]; exact hN
    rw [hN] at hl
    have H := Lib.hid (And.intro r1 (And.intro r2 (And.intro hN hNB)))
    rw [hN, hNB]
    clear r1 r2 hN hNB hlen
    go_enter Try.func12, Try.ntmps12
    go_wp2_with fail
    go_loopg [5] N (fun g iv wr => ∃ k : Nat, g = N - k ∧ k ≤ N ∧ iv = .int .i64 k ∧ Hid (A.take k = B.take k) ∧ Fr Nil w wr)
    case atStart => exact ⟨0, rfl, by omega, rfl, Lib.hid rfl, Fr.refl _ _⟩
    case round =>
      obtain ⟨k, rfl, hk, rfl, HT, hw⟩ := hrel
      by_cases hlt : k < N
      · have hkA : k < A.length := by rw [H.out.2.2.1]; exact hlt
        have hkB : k < B.length := by rw [H.out.2.2.2]; exact hlt
        obtain ⟨g1, e1, p0⟩ := H.out.1 k hkA
        obtain ⟨g2, e2, q0⟩ := H.out.2.1 k hkB
        subst e1 e2
        have lt1' : g1 < w.heap.size := World.block_lt_of_cell? w _ p0
        have lt2' : g2 < w.heap.size := World.block_lt_of_cell? w _ q0
        rw [← World.cell?_of_block (a := ⟨g1, k, none⟩) (hw.block g1 lt1' (fun q => q.elim))] at p0
        rw [← World.cell?_of_block (a := ⟨g2, k, none⟩) (hw.block g2 lt2' (fun q => q.elim))] at q0
        have lt1 : g1 < wr.heap.size := World.block_lt_of_cell? wr _ p0
        have lt2 : g2 < wr.heap.size := World.block_lt_of_cell? wr _ q0
        have i0 : (0 : Int) ≤ (k : Int) := by omega
        have i1 : (k : Int) < (N : Int) := by omega
        have htk : A.take (k + 1) = B.take (k + 1) ↔ A[k] = B[k] := by
          rw [List.take_succ_eq_append_getElem hkA, List.take_succ_eq_append_getElem hkB, HT.out, List.append_cancel_left_eq]
          simp
        have hne : A[k] ≠ B[k] → A ≠ B := fun q e => q (by subst e; rfl)
        obtain ⟨x1, ex1⟩ : ∃ x1, A[k] = x1 := ⟨_, rfl⟩
        obtain ⟨y1, ey1⟩ : ∃ y1, B[k] = y1 := ⟨_, rfl⟩
        rw [ex1] at p0
        rw [ey1] at q0
        rw [ex1, ey1] at htk hne
        have HE := Lib.hid (And.intro htk hne)
        clear ex1 ey1 htk hne lt1' lt2'
        by_cases c1 : x1 = y1
        · subst c1
          go_wp2
          go_quiet (fail)
          go_wp2
          go_roundg (N - (k + 1))
          case rel => exact ⟨k + 1, rfl, by omega, by go_num, Lib.hid (HE.out.1.2 trivial), by (repeat (first | (with_reducible exact Fr.refl _ _) | (with_reducible assumption) | (with_reducible exact Fr.of_nil (by assumption)) | (with_reducible refine Fr.drew ?_) | (with_reducible refine Fr.drewN ?_ _) | (with_reducible refine Fr.alloc ?_ _) | (with_reducible refine Fr.set ?_ _ _ (by first | (intros; omega) | (simp; done) | (simp; omega))) | (with_reducible refine Fr.via ?_ (by assumption)) | (with_reducible refine Fr.comp ?_ (by assumption))))⟩
          case measure => omega
        · have d1 : ((x1 : Int) == (y1 : Int)) = false := by simp; omega
          have d2 : ¬ (x1 : Int) = (y1 : Int) := by omega
          have HF : Hid (decide (A = B) = false) := decide_eq_false (HE.out.2 c1)
          go_wp2
          go_quiet (fail)
          go_wp2
          go_ret
          exact ⟨by rw [HF.out]; rfl, by (repeat (first | (with_reducible exact Fr.refl _ _) | (with_reducible assumption) | (with_reducible exact Fr.of_nil (by assumption)) | (with_reducible refine Fr.drew ?_) | (with_reducible refine Fr.drewN ?_ _) | (with_reducible refine Fr.alloc ?_ _) | (with_reducible refine Fr.set ?_ _ _ (by first | (intros; omega) | (simp; done) | (simp; omega))) | (with_reducible refine Fr.via ?_ (by assumption)) | (with_reducible refine Fr.comp ?_ (by assumption))))⟩
      · obtain rfl : k = N := by omega
        have i1 : ¬ ((k : Int) < (k : Int)) := by omega
        have HF : Hid (decide (A = B) = true) := decide_eq_true (by
          have e := HT.out
          rw [List.take_of_length_le (by rw [H.out.2.2.1]; exact Nat.le_refl _), List.take_of_length_le (by rw [H.out.2.2.2]; exact Nat.le_refl _)] at e
          exact e)
        go_wp2
        go_ret
        exact ⟨by rw [HF.out]; rfl, by (repeat (first | (with_reducible exact Fr.refl _ _) | (with_reducible assumption) | (with_reducible exact Fr.of_nil (by assumption)) | (with_reducible refine Fr.drew ?_) | (with_reducible refine Fr.drewN ?_ _) | (with_reducible refine Fr.alloc ?_ _) | (with_reducible refine Fr.set ?_ _ _ (by first | (intros; omega) | (simp; done) | (simp; omega))) | (with_reducible refine Fr.via ?_ (by assumption)) | (with_reducible refine Fr.comp ?_ (by assumption))))⟩
  · have HF : Hid (decide (A = B) = false) := decide_eq_false (fun q => hlen (by rw [q]))
    rw [HF.out]
    have d2 : ¬ (A.length : Int) = (B.length : Int) := by omega
    have d3 : ((A.length : Int) == (B.length : Int)) = false := by simp; omega
    clear r1 r2
    go_enter Try.func12, Try.ntmps12
    go_wp2
    go_ret
    exact ⟨rfl, by (repeat (first | (with_reducible exact Fr.refl _ _) | (with_reducible assumption) | (with_reducible exact Fr.of_nil (by assumption)) | (with_reducible refine Fr.drew ?_) | (with_reducible refine Fr.drewN ?_ _) | (with_reducible refine Fr.alloc ?_ _) | (with_reducible refine Fr.set ?_ _ _ (by first | (intros; omega) | (simp; done) | (simp; omega))) | (with_reducible refine Fr.via ?_ (by assumption)) | (with_reducible refine Fr.comp ?_ (by assumption))))⟩
theorem rnew_any (ba : Nat) (w : World) (hb : ba < w.heap.size) :
    Calls Try.prog 30 #[.pointer (some ⟨ba, 0, none⟩)] w fun e w' => ∃ rg, e = .returned (.pointer (some ⟨rg, 0, none⟩)) ∧ w.heap.size ≤ rg ∧ Blk w' rg #[.pointer (some ⟨ba, 0, none⟩), .int .i64 0, .int .i64 0, .int .i64 0, .int .i64 0, .int .i64 0, .int .i64 0] 68 ∧ Fr Nil w w' := by
  go_enter Try.func30, Try.ntmps30
  go_wp2
  go_ret
  refine ⟨_, rfl, Nat.le_refl _, ?_, by (repeat (first | (with_reducible exact Fr.refl _ _) | (with_reducible assumption) | (with_reducible exact Fr.of_nil (by assumption)) | (with_reducible refine Fr.drew ?_) | (with_reducible refine Fr.drewN ?_ _) | (with_reducible refine Fr.alloc ?_ _) | (with_reducible refine Fr.set ?_ _ _ (by first | (intros; omega) | (simp; done) | (simp; omega))) | (with_reducible refine Fr.via ?_ (by assumption)) | (with_reducible refine Fr.comp ?_ (by assumption))))⟩
  (unfold Blk; simp (disch := first | omega | (simp; done) | (simp; omega)) only [hp_drew, hp_drewN, hp_alloc, hp_other, hp_same, hp_new, upd_cells, Option.map_some])
theorem ringOf_nil (l : List Int) (n f b : Nat) (h : l.length = n) : RingOf l n f b ⟨[], [], [], []⟩ := ⟨h, trivial, ⟨List.Pairwise.nil, fun c hc => by simp [Seg4.all] at hc⟩, fun q => absurd rfl q⟩
theorem made_any (m : Nat) (w : World) (h1 : 1 ≤ m) (h2 : m ≤ 65536) :
    Calls Try.prog 8 #[.int .i64 (m : Int)] w fun e w' =>
      ∃ ba bw rg sb, e = .returned (.tuple #[.pointer (some ⟨ba, 0, none⟩), .pointer (some ⟨rg, 0, none⟩), .pointer (some ⟨sb, 0, none⟩), .bool true]) ∧ RingIs w' rg ba bw m ⟨[], [], [], []⟩ 0 ∧ Blk w' sb #[.slice none 0 0, .slice none 0 0, .slice none 0 0, .slice none 0 0, .int .i64 (m : Int)] 58 ∧ w.heap.size ≤ ba ∧ w.heap.size ≤ bw ∧ w.heap.size ≤ rg ∧ w.heap.size ≤ sb ∧ Fr Nil w w' := by
  have hN := new_in (m : Int) w (by omega) (by omega)
  rw [Int.toNat_natCast] at hN
  have HN := Lib.hid hN
  have H12 := Lib.hid (And.intro h1 h2)
  clear hN h1 h2
  go_enter Try.func8, Try.ntmps8
  go_wp2_with fail
  refine HN.out.mono ?_
  rintro e w1 ⟨ba, bw, rfl, hA, s1, s2, f1⟩
  have hal := hA.box.lt
  have HA := Lib.hid hA
  clear hA
  go_wp2_with fail
  refine (rnew_any ba w1 hal).mono ?_
  rintro e w2 ⟨rg, rfl, s3, b2, f2⟩
  have lrg := b2.lt
  go_wp2
  refine bodyPost_ret (v := .tuple #[.pointer (some ⟨ba, 0, none⟩), .pointer (some ⟨rg, 0, none⟩), .pointer (some ⟨w2.heap.size, 0, none⟩), .bool true]) (by simp [results, Try.results8, go_sem]) rfl ?_
  have y1 := f1.size
  have y2 := f2.size
  have hA2 := HA.out.fr f2 (fun q => q) (fun q => q)
  have fX : Fr Nil w2 (w2.alloc (.cells #[.slice none 0 0, .slice none 0 0, .slice none 0 0, .slice none 0 0, .int .i64 (m : Int)] 58)) := by (repeat (first | (with_reducible exact Fr.refl _ _) | (with_reducible assumption) | (with_reducible exact Fr.of_nil (by assumption)) | (with_reducible refine Fr.drew ?_) | (with_reducible refine Fr.drewN ?_ _) | (with_reducible refine Fr.alloc ?_ _) | (with_reducible refine Fr.set ?_ _ _ (by first | (intros; omega) | (simp; done) | (simp; omega))) | (with_reducible refine Fr.via ?_ (by assumption)) | (with_reducible refine Fr.comp ?_ (by assumption))))
  refine ⟨ba, bw, rg, w2.heap.size, rfl, ⟨List.replicate m 0, 0, 0, ⟨fX.blk b2 (fun q => q), hA2.fr fX (fun q => q) (fun q => q), by simp; have := H12.out.2; omega, by omega⟩, ringOf_nil _ _ _ _ (by simp)⟩, ?_, s1, s2, by omega, by omega, by (repeat (first | (with_reducible exact Fr.refl _ _) | (with_reducible assumption) | (with_reducible exact Fr.of_nil (by assumption)) | (with_reducible refine Fr.drew ?_) | (with_reducible refine Fr.drewN ?_ _) | (with_reducible refine Fr.alloc ?_ _) | (with_reducible refine Fr.set ?_ _ _ (by first | (intros; omega) | (simp; done) | (simp; omega))) | (with_reducible refine Fr.via ?_ (by assumption)) | (with_reducible refine Fr.comp ?_ (by assumption))))⟩
  (unfold Blk; simp (disch := first | omega | (simp; done) | (simp; omega)) only [hp_drew, hp_drewN, hp_alloc, hp_other, hp_same, hp_new, upd_cells, Option.map_some])
end Go.Proofs.Ytlpdlhmdhlcdlaa
