/-
  The law StackOnce: what it computes.
-/
import Derived.Test.YtncncoakibilcaaStack10
namespace Go.Proofs.Ytncncoakibilcaa
set_option linter.unusedSimpArgs false
set_option linter.unusedVariables false
open Go.RowKit

/-- The first k frames that the law pushes. -/
def baseN (fr : List Int) (k : Nat) : List FrameV := (List.range k).map fun (i : Nat) => ⟨7, (i : Int), [nth fr i]⟩
theorem baseN_len (fr : List Int) (k : Nat) : (baseN fr k).length = k := by simp [baseN]
theorem baseN_succ (fr : List Int) (k : Nat) : baseN fr (k + 1) = baseN fr k ++ [⟨7, k, [nth fr k]⟩] := by simp [baseN, List.range_succ]
theorem baseN_used (fr : List Int) (k : Nat) : usedOf (baseN fr k) = 3 * k := by
  induction k with
  | zero => rfl
  | succ k ih => rw [baseN_succ, usedOf_snoc, ih]; simp; omega
theorem baseN_at (fr : List Int) {k n : Nat} (h : k < n) : (baseN fr n)[k]? = some ⟨7, k, [nth fr k]⟩ := by
  simp [baseN, h]
theorem infoIntT : (Try.prog.info? 3).map (fun i => (i.zero, i.size, i.bytes)) = some (some (.int .i64 0), 1, 8) := by kernel_rfl

set_option maxRecDepth 100000 in
set_option maxHeartbeats 4000000 in
theorem once_in (v va : Value) (fr : List Int) (l : List ActF) (w : World) (h : RowInts w v fr) (h60 : fr.length ≤ 60) (ha : RowFrames w va l) (hlen : l.length ≤ 9223372036854775807) (hfew : fewB l = true) :
    Calls Try.prog 4 #[v, va] w fun e w' => e = .returned (.bool true) ∧ Fr Nil w w' := by
  have hrow := ha
  obtain ⟨h100, hshort⟩ := few_short hfew
  obtain ⟨a, cap, rfl, hnum⟩ := h
  obtain ⟨aa, capa, rfl, hc⟩ := ha
  have d1 : decide (60 < (fr.length : Int)) = false := by simp; omega
  have haw : 0 < fr.length → ∀ y, a = some y → y.block < w.heap.size := fun hp y hy => by
    obtain ⟨bw, off, rfl, hcell⟩ := hnum hp
    cases hy
    exact World.block_lt_of_cell? _ _ (hcell 0 hp)
  go_enter Try.func4, Try.ntmps4
  go_wp2_with fail
  refine (awake_any _).mono ?_
  rintro e w1 ⟨rfl, f1⟩
  have hb1 := f1.blk (b := w.heap.size) (c := #[.slice a fr.length cap]) (t := 30) (by (unfold Blk; simp (disch := first | omega | (simp; done) | (simp; omega)) only [hp_drew, hp_drewN, hp_alloc, hp_other, hp_same, hp_new, upd_cells, Option.map_some])) (by simp [Nil])
  have ff1 : Fr Nil w w1 := Fr.trans (by (repeat (first | (with_reducible exact Fr.refl _ _) | (with_reducible assumption) | (with_reducible exact Fr.of_nil (by assumption)) | (with_reducible refine Fr.drew ?_) | (with_reducible refine Fr.drewN ?_ _) | (with_reducible refine Fr.alloc ?_ _) | (with_reducible refine Fr.set ?_ _ _ (by first | (intros; omega) | (simp; done) | (simp; omega)))))) f1 (fun _ _ q => q)
  have c1 := hb1.cell 0
  simp at c1
  clear f1
  go_wp2_with fail
  refine (few_any _ l w1 (hrow.fr ff1) hlen).mono ?_
  rintro e w2 ⟨rfl, rfl⟩
  rw [hfew]
  go_wp2_with fail
  refine (snew_in 4096 _ (by omega) (by omega) (fun _ => False)).mono ?_
  rintro e w3 ⟨rfl, st, f3⟩
  obtain ⟨bs, hbs⟩ : ∃ bs, bs = w1.heap.size := ⟨_, rfl⟩
  rw [← hbs] at st
  rw [← hbs]
  have st1 := st.mono (Y := fun b => b = bs) (fun b _ q => .inr q) rfl
  simp at st1
  have hbf : w.heap.size < bs := by rw [hbs]; exact hb1.lt
  have hb3 := f3.blk hb1 (by simp [Nil])
  have ff3 := ff1.comp f3
  clear st f3 hbs hb1 ff1 c1
  go_wp2_with fail
  go_loopw [7] (fun i wr => ∃ j : Nat, j ≤ fr.length ∧ i = .int .i64 j ∧ StackAt (fun b => b = bs) wr bs (baseN fr j) 4096 0 ∧ Blk wr w.heap.size #[.slice a fr.length cap] 30 ∧ Fr Nil w wr) (fun i _ => fr.length - (intOf i).toNat)
  case atStart => exact ⟨0, Nat.zero_le _, rfl, st1, hb3, ff3⟩
  case round =>
    obtain ⟨j, hj, rfl, hst, hbf2, hf⟩ := hrel
    clear st1 hb3 ff3
    have c0 := hbf2.cell 0
    simp at c0
    have hbsl := hst.lt
    have hbfl := hbf2.lt
    by_cases hlt : j < fr.length
    · obtain ⟨b, off, rfl, hcell⟩ := hnum (by omega)
      have e0 := hf.cell (hcell j hlt) (by simp [Nil])
      have b1 : (0 : Int) ≤ (j : Int) := by omega
      have b2 : (j : Int) < (fr.length : Int) := by omega
      have hg : b < wr.heap.size := World.block_lt_of_cell? _ _ e0
      clear hcell hnum hc hrow
      go_wp2_with fail
      refine (push_in (fun b => b = bs) bs (baseN fr j) 4096 0 _ ⟨7, j, [nth fr j]⟩ _ (IntsAt.of_blk (b := wr.heap.size) (l := [nth fr j]) (t := 2) (by (unfold Blk; simp (disch := first | omega | (simp; done) | (simp; omega)) only [hp_drew, hp_drewN, hp_alloc, hp_other, hp_same, hp_new, upd_cells, Option.map_some]) <;> simp [ints]) (fun q => by have q' : wr.heap.size = bs := q; omega) 1) (by simp) (by rw [baseN_used]; simp; omega) (fun b q => by rw [q]; simp; omega) (hst.fr (S := Nil) (by (repeat (first | (with_reducible exact Fr.refl _ _) | (with_reducible assumption) | (with_reducible exact Fr.of_nil (by assumption)) | (with_reducible refine Fr.drew ?_) | (with_reducible refine Fr.drewN ?_ _) | (with_reducible refine Fr.alloc ?_ _) | (with_reducible refine Fr.set ?_ _ _ (by first | (intros; omega) | (simp; done) | (simp; omega)))))) (fun _ _ q => q.elim) (by simp [Nil]))).mono ?_
      rintro e w4 ⟨rfl, st4, f4⟩
      rw [← baseN_succ] at st4
      have hb4 := f4.blk (hbf2.alloc _) (fun q => by have q' : w.heap.size = bs := q; omega)
      have hf4 : Fr Nil w w4 := Fr.trans (by (repeat (first | (with_reducible exact Fr.refl _ _) | (with_reducible assumption) | (with_reducible exact Fr.of_nil (by assumption)) | (with_reducible refine Fr.drew ?_) | (with_reducible refine Fr.drewN ?_ _) | (with_reducible refine Fr.alloc ?_ _) | (with_reducible refine Fr.set ?_ _ _ (by first | (intros; omega) | (simp; done) | (simp; omega)))))) f4 (fun k hk q => by have q' : k = bs := q; omega)
      clear hst hbf2 hf f4 c0 e0
      go_wp2
      go_roundw
      case rel => exact ⟨j + 1, by omega, by go_num, st4, hb4, hf4⟩
      case measure => simp [intOf]; omega
    · have : j = fr.length := by omega
      subst this
      have hmk := fun w : World => run_make_ints (P := Try.prog) w 41 3 Try.underlying41 infoIntT fr.length (by omega)
      go_wp2_with fail
      refine (sbegin_any (fun b => b = bs) bs (baseN fr fr.length) 4096 0 _ hst).mono ?_
      rintro e w5 ⟨rfl, st5, f5⟩
      rw [baseN_len] at st5
      have hb5 := f5.blk hbf2 (fun q => by have q' : w.heap.size = bs := q; omega)
      have hf5 : Fr Nil w w5 := hf.trans f5 (fun k hk q => by have q' : k = bs := q; omega)
      have c5 := hb5.cell 0
      simp at c5
      have hbs5 := st5.lt
      have hbf5 := hb5.lt
      clear hst hbf2 hf f5 c0
      go_wp2_with fail
      obtain ⟨tb, htb⟩ : ∃ tb, tb = w5.heap.size := ⟨_, rfl⟩
      obtain ⟨W, hW⟩ : ∃ W, W = (w5.alloc (.cells (ints (List.replicate fr.length 0)) 3)).alloc (.cells #[.slice (some ⟨w5.heap.size, 0, none⟩) fr.length fr.length] 41) := ⟨_, rfl⟩
      rw [← hW]
      have fW : Fr Nil w5 W := by
        rw [hW]; (repeat (first | (with_reducible exact Fr.refl _ _) | (with_reducible assumption) | (with_reducible exact Fr.of_nil (by assumption)) | (with_reducible refine Fr.drew ?_) | (with_reducible refine Fr.drewN ?_ _) | (with_reducible refine Fr.alloc ?_ _) | (with_reducible refine Fr.set ?_ _ _ (by first | (intros; omega) | (simp; done) | (simp; omega)))))
      have r0 : Blk W tb (ints (toldL fr.length fr.length)) 3 := by
        rw [hW, htb, show toldL fr.length fr.length = List.replicate fr.length 0 by simp [toldL]]; (unfold Blk; simp (disch := first | omega | (simp; done) | (simp; omega)) only [hp_drew, hp_drewN, hp_alloc, hp_other, hp_same, hp_new, upd_cells, Option.map_some])
      have r1 : Blk W (tb + 1) #[.slice (some ⟨tb, 0, none⟩) fr.length fr.length] 41 := by
        rw [hW, htb]; (unfold Blk; simp (disch := first | omega | (simp; done) | (simp; omega)) only [hp_drew, hp_drewN, hp_alloc, hp_other, hp_same, hp_new, upd_cells, Option.map_some])
      have st6 : StackAt (fun b => b = bs ∨ b = tb) W bs (baseN fr fr.length) 4096 fr.length := (st5.mono (fun b hb q => q.elim id (fun q => by omega)) (.inl rfl)).fr fW (fun _ _ q => q.elim) (by simp [Nil])
      have hf6 := hf5.comp fW
      have hN : Notes W w.heap.size (tb + 1) tb a cap fr fr.length := ⟨fW.blk hb5 (by simp [Nil]), r1, r0, fun hp => by
        obtain ⟨bw, off, rfl, hcell⟩ := hnum hp
        have hbw := World.block_lt_of_cell? _ _ (hcell 0 hp)
        exact ⟨bw, off, rfl, fun q => by simp only at hbw; have := hf5.size; omega, fun i hi => hf6.cell (hcell i hi) (by simp [Nil])⟩⟩
      rw [← htb]
      have hbt : bs < tb := by omega
      have hwb : w.heap.size < tb := by omega
      clear hW fW r0 r1 st5 hf5 hb5 c5 hbs5 hbf5 htb hmk hnum
      go_loopw [10] (fun i wr => ∃ (j : Nat) (ls : List FrameV) (td : Nat), j ≤ l.length ∧ i = .int .i64 j ∧ td ≤ fr.length ∧ (∀ k, k < td → ls[k]? = some ⟨7, k, [nth fr k]⟩) ∧ StackAt (fun b => b = bs ∨ b = tb) wr bs ls 4096 td ∧ Notes wr w.heap.size (tb + 1) tb a cap fr td ∧ Fr Nil w wr) (fun i _ => l.length - (intOf i).toNat)
      case atStart => exact ⟨0, _, _, Nat.zero_le _, rfl, Nat.le_refl _, fun k hk => baseN_at fr hk, st6, hN, hf6⟩
      case round =>
        obtain ⟨j, ls, td, hj, rfl, htd, hbase, hst2, hN2, hf2⟩ := hrel
        clear st6 hN hf6
        by_cases hlt : j < l.length
        · obtain ⟨b, o, rfl, hcells⟩ := hc (by omega)
          obtain ⟨x, hx⟩ : ∃ x, l[j]? = some x := ⟨_, List.getElem?_eq_getElem hlt⟩
          obtain ⟨e0, e1, e2, hwl, u, e3, hru⟩ := hcells j x hx
          have hi0 : IntsAt (fun b => b = bs ∨ b = tb) wr u x.f.words := ((IntsAt.of_row (X := fun b => w.heap.size ≤ b) hru (fun b hb q => by omega)).fr hf2 (fun _ _ q => q.elim)).mono (fun b hb q => by rcases q with q | q <;> omega)
          obtain ⟨a', cap', rfl, _⟩ := hru
          have hxl := hshort j x hx
          have k0 := hf2.cell e0 (by simp [Nil])
          have k1 := hf2.cell e1 (by simp [Nil])
          have k2 := hf2.cell e2 (by simp [Nil])
          have k3 := hf2.cell e3 (by simp [Nil])
          have hbl : b < w.heap.size := World.block_lt_of_cell? _ _ e1
          have hbw : b < wr.heap.size := Nat.lt_of_lt_of_le hbl hf2.size
          have b1 : (0 : Int) ≤ (j : Int) := by omega
          have b2 : (j : Int) < (l.length : Int) := by omega
          have hbs2 := hst2.lt
          have htb2 := hN2.told.lt
          have HB := Lib.hid hbase
          have htl := hst2.htodo
          clear hcells hc hx e0 e1 e2 e3 hrow hshort hbase
          by_cases h3 : x.kind = 3
          · rw [h3] at k0
            have fA : Fr Nil wr (wr.alloc (.cells #[.int .i64 3, .int .i64 x.f.kind, .int .i64 x.f.node, .slice a' x.f.words.length cap'] 34)) := (Fr.refl _ _).alloc _
            have st3 := hst2.fr fA (fun _ _ q => q.elim) (by simp [Nil])
            have hN3 := hN2.fr fA (fun _ q => q.elim)
            have hf3 := hf2.comp fA
            clear hst2 hN2 hf2 fA hi0
            go_wp2
            go_roundw
            case rel => exact ⟨j + 1, ls, td, by omega, by go_num, htd, HB.out, st3, hN3, hf3⟩
            case measure => simp [intOf]; omega
          · have hXX : ∀ b, (b = bs ∨ b = tb) → b < wr.heap.size := fun b q => by rcases q with q | q <;> omega
            by_cases h0 : x.kind = 0
            · rw [h0] at k0
              clear h3 h0
              by_cases hfit : usedOf ls + (x.f.words.length + 2) ≤ 4096
              · go_wp2_with fail
                refine (do_push_in (fun b => b = bs ∨ b = tb) bs ls 4096 td _ ⟨1, x.f.node, x.f.words⟩ _ (hi0.fr (S := Nil) (by (repeat (first | (with_reducible exact Fr.refl _ _) | (with_reducible assumption) | (with_reducible exact Fr.of_nil (by assumption)) | (with_reducible refine Fr.drew ?_) | (with_reducible refine Fr.drewN ?_ _) | (with_reducible refine Fr.alloc ?_ _) | (with_reducible refine Fr.set ?_ _ _ (by first | (intros; omega) | (simp; done) | (simp; omega)))))) (fun _ _ q => q.elim)) hxl hfit (fun b q => by have := hXX b q; simp; omega) (hst2.fr (S := Nil) (by (repeat (first | (with_reducible exact Fr.refl _ _) | (with_reducible assumption) | (with_reducible exact Fr.of_nil (by assumption)) | (with_reducible refine Fr.drew ?_) | (with_reducible refine Fr.drewN ?_ _) | (with_reducible refine Fr.alloc ?_ _) | (with_reducible refine Fr.set ?_ _ _ (by first | (intros; omega) | (simp; done) | (simp; omega)))))) (fun _ _ q => q.elim) (by simp [Nil]))).mono ?_
                rintro e w7 ⟨rfl, st7, f7⟩
                have g11 := f7.blk (b := wr.heap.size) (c := #[.int .i64 0, .int .i64 1, .int .i64 x.f.node, .slice a' x.f.words.length cap']) (t := 34) (by (unfold Blk; simp (disch := first | omega | (simp; done) | (simp; omega)) only [hp_drew, hp_drewN, hp_alloc, hp_other, hp_same, hp_new, upd_cells, Option.map_some]) <;> simp) (fun q => by have q' : wr.heap.size = bs := q; omega)
                have c11 := g11.cell 0
                simp at c11
                have l11 := g11.lt
                have fB : Fr (fun b => b = bs) wr w7 := Fr.trans (by (repeat (first | (with_reducible exact Fr.refl _ _) | (with_reducible assumption) | (with_reducible exact Fr.of_nil (by assumption)) | (with_reducible refine Fr.drew ?_) | (with_reducible refine Fr.drewN ?_ _) | (with_reducible refine Fr.alloc ?_ _) | (with_reducible refine Fr.set ?_ _ _ (by first | (intros; omega) | (simp; done) | (simp; omega)))))) f7 (fun _ _ q => q)
                have hN7 := hN2.fr fB (fun b q => ⟨by omega, by omega, by omega, fun hp y hy q' => by have := haw hp y hy; omega⟩)
                have hf7 : Fr Nil w w7 := hf2.trans fB (fun k hk q => by have q' : k = bs := q; omega)
                have HS := Lib.hid st7
                clear hst2 hN2 hf2 f7 fB hi0 g11 st7 k0 k1 k2 k3
                simp only [toldV, noF]
                go_wp2
                go_roundw
                case rel => exact ⟨j + 1, _, td, by omega, by go_num, htd, fun k hk => by rw [List.getElem?_append_left (by have := htl; omega)]; exact HB.out k hk, HS.out.fr (S := Nil) (by (repeat (first | (with_reducible exact Fr.refl _ _) | (with_reducible assumption) | (with_reducible exact Fr.of_nil (by assumption)) | (with_reducible refine Fr.drew ?_) | (with_reducible refine Fr.drewN ?_ _) | (with_reducible refine Fr.alloc ?_ _) | (with_reducible refine Fr.set ?_ _ _ (by first | (intros; omega) | (simp; done) | (simp; omega)))))) (fun _ _ q => q.elim) (by simp [Nil]), hN7.fr (S := Nil) (by (repeat (first | (with_reducible exact Fr.refl _ _) | (with_reducible assumption) | (with_reducible exact Fr.of_nil (by assumption)) | (with_reducible refine Fr.drew ?_) | (with_reducible refine Fr.drewN ?_ _) | (with_reducible refine Fr.alloc ?_ _) | (with_reducible refine Fr.set ?_ _ _ (by first | (intros; omega) | (simp; done) | (simp; omega)))))) (fun _ q => q.elim), Fr.trans hf7 (S' := Nil) (by (repeat (first | (with_reducible exact Fr.refl _ _) | (with_reducible assumption) | (with_reducible exact Fr.of_nil (by assumption)) | (with_reducible refine Fr.drew ?_) | (with_reducible refine Fr.drewN ?_ _) | (with_reducible refine Fr.alloc ?_ _) | (with_reducible refine Fr.set ?_ _ _ (by first | (intros; omega) | (simp; done) | (simp; omega)))))) (fun _ _ q => q)⟩
                case measure => simp [intOf]; omega
              · go_wp2_with fail
                refine (do_push_out (fun b => b = bs ∨ b = tb) bs ls 4096 td _ ⟨1, x.f.node, x.f.words⟩ _ (hi0.fr (S := Nil) (by (repeat (first | (with_reducible exact Fr.refl _ _) | (with_reducible assumption) | (with_reducible exact Fr.of_nil (by assumption)) | (with_reducible refine Fr.drew ?_) | (with_reducible refine Fr.drewN ?_ _) | (with_reducible refine Fr.alloc ?_ _) | (with_reducible refine Fr.set ?_ _ _ (by first | (intros; omega) | (simp; done) | (simp; omega)))))) (fun _ _ q => q.elim)) hxl (by simp; omega) (hst2.fr (S := Nil) (by (repeat (first | (with_reducible exact Fr.refl _ _) | (with_reducible assumption) | (with_reducible exact Fr.of_nil (by assumption)) | (with_reducible refine Fr.drew ?_) | (with_reducible refine Fr.drewN ?_ _) | (with_reducible refine Fr.alloc ?_ _) | (with_reducible refine Fr.set ?_ _ _ (by first | (intros; omega) | (simp; done) | (simp; omega)))))) (fun _ _ q => q.elim) (by simp [Nil]))).mono ?_
                rintro e w7 ⟨rfl, f7⟩
                have g11 := f7.blk (b := wr.heap.size) (c := #[.int .i64 0, .int .i64 1, .int .i64 x.f.node, .slice a' x.f.words.length cap']) (t := 34) (by (unfold Blk; simp (disch := first | omega | (simp; done) | (simp; omega)) only [hp_drew, hp_drewN, hp_alloc, hp_other, hp_same, hp_new, upd_cells, Option.map_some]) <;> simp) (by simp [Nil])
                have c11 := g11.cell 0
                simp at c11
                have l11 := g11.lt
                have fB : Fr Nil wr w7 := Fr.trans (by (repeat (first | (with_reducible exact Fr.refl _ _) | (with_reducible assumption) | (with_reducible exact Fr.of_nil (by assumption)) | (with_reducible refine Fr.drew ?_) | (with_reducible refine Fr.drewN ?_ _) | (with_reducible refine Fr.alloc ?_ _) | (with_reducible refine Fr.set ?_ _ _ (by first | (intros; omega) | (simp; done) | (simp; omega)))))) f7 (fun _ _ q => q)
                have hN7 := hN2.fr fB (fun b q => q.elim)
                have hf7 : Fr Nil w w7 := hf2.comp fB
                have st7 := hst2.fr fB (fun _ _ q => q.elim) (by simp [Nil])
                have HS := Lib.hid st7
                clear hst2 hN2 hf2 f7 fB hi0 g11 st7 k0 k1 k2 k3
                simp only [toldV, noF]
                go_wp2
                go_roundw
                case rel => exact ⟨j + 1, _, td, by omega, by go_num, htd, HB.out, HS.out.fr (S := Nil) (by (repeat (first | (with_reducible exact Fr.refl _ _) | (with_reducible assumption) | (with_reducible exact Fr.of_nil (by assumption)) | (with_reducible refine Fr.drew ?_) | (with_reducible refine Fr.drewN ?_ _) | (with_reducible refine Fr.alloc ?_ _) | (with_reducible refine Fr.set ?_ _ _ (by first | (intros; omega) | (simp; done) | (simp; omega)))))) (fun _ _ q => q.elim) (by simp [Nil]), hN7.fr (S := Nil) (by (repeat (first | (with_reducible exact Fr.refl _ _) | (with_reducible assumption) | (with_reducible exact Fr.of_nil (by assumption)) | (with_reducible refine Fr.drew ?_) | (with_reducible refine Fr.drewN ?_ _) | (with_reducible refine Fr.alloc ?_ _) | (with_reducible refine Fr.set ?_ _ _ (by first | (intros; omega) | (simp; done) | (simp; omega)))))) (fun _ q => q.elim), Fr.trans hf7 (S' := Nil) (by (repeat (first | (with_reducible exact Fr.refl _ _) | (with_reducible assumption) | (with_reducible exact Fr.of_nil (by assumption)) | (with_reducible refine Fr.drew ?_) | (with_reducible refine Fr.drewN ?_ _) | (with_reducible refine Fr.alloc ?_ _) | (with_reducible refine Fr.set ?_ _ _ (by first | (intros; omega) | (simp; done) | (simp; omega)))))) (fun _ _ q => q)⟩
                case measure => simp [intOf]; omega
            · by_cases h1 : x.kind = 1
              · rw [h1] at k0
                clear h3 h0 h1
                rcases List.eq_nil_or_concat ls with rfl | ⟨l', y, rfl⟩
                · go_wp2_with fail
                  refine (do_pop_none (fun b => b = bs ∨ b = tb) bs 4096 td _ ⟨1, x.f.node, x.f.words⟩ _ (hst2.fr (S := Nil) (by (repeat (first | (with_reducible exact Fr.refl _ _) | (with_reducible assumption) | (with_reducible exact Fr.of_nil (by assumption)) | (with_reducible refine Fr.drew ?_) | (with_reducible refine Fr.drewN ?_ _) | (with_reducible refine Fr.alloc ?_ _) | (with_reducible refine Fr.set ?_ _ _ (by first | (intros; omega) | (simp; done) | (simp; omega)))))) (fun _ _ q => q.elim) (by simp [Nil]))).mono ?_
                  rintro e w7 ⟨rfl, f7⟩
                  have g11 := f7.blk (b := wr.heap.size) (c := #[.int .i64 1, .int .i64 1, .int .i64 x.f.node, .slice a' x.f.words.length cap']) (t := 34) (by (unfold Blk; simp (disch := first | omega | (simp; done) | (simp; omega)) only [hp_drew, hp_drewN, hp_alloc, hp_other, hp_same, hp_new, upd_cells, Option.map_some]) <;> simp) (by simp [Nil])
                  have c11 := g11.cell 0
                  simp at c11
                  have l11 := g11.lt
                  have fB : Fr Nil wr w7 := Fr.trans (by (repeat (first | (with_reducible exact Fr.refl _ _) | (with_reducible assumption) | (with_reducible exact Fr.of_nil (by assumption)) | (with_reducible refine Fr.drew ?_) | (with_reducible refine Fr.drewN ?_ _) | (with_reducible refine Fr.alloc ?_ _) | (with_reducible refine Fr.set ?_ _ _ (by first | (intros; omega) | (simp; done) | (simp; omega)))))) f7 (fun _ _ q => q)
                  have hN7 := hN2.fr fB (fun b q => q.elim)
                  have hf7 : Fr Nil w w7 := hf2.comp fB
                  have st7 := hst2.fr fB (fun _ _ q => q.elim) (by simp [Nil])
                  have HS := Lib.hid st7
                  clear hst2 hN2 hf2 f7 fB hi0 g11 st7 k0 k1 k2 k3
                  simp only [toldV, noF]
                  go_wp2
                  go_roundw
                  case rel => exact ⟨j + 1, _, td, by omega, by go_num, htd, HB.out, HS.out.fr (S := Nil) (by (repeat (first | (with_reducible exact Fr.refl _ _) | (with_reducible assumption) | (with_reducible exact Fr.of_nil (by assumption)) | (with_reducible refine Fr.drew ?_) | (with_reducible refine Fr.drewN ?_ _) | (with_reducible refine Fr.alloc ?_ _) | (with_reducible refine Fr.set ?_ _ _ (by first | (intros; omega) | (simp; done) | (simp; omega)))))) (fun _ _ q => q.elim) (by simp [Nil]), hN7.fr (S := Nil) (by (repeat (first | (with_reducible exact Fr.refl _ _) | (with_reducible assumption) | (with_reducible exact Fr.of_nil (by assumption)) | (with_reducible refine Fr.drew ?_) | (with_reducible refine Fr.drewN ?_ _) | (with_reducible refine Fr.alloc ?_ _) | (with_reducible refine Fr.set ?_ _ _ (by first | (intros; omega) | (simp; done) | (simp; omega)))))) (fun _ q => q.elim), Fr.trans hf7 (S' := Nil) (by (repeat (first | (with_reducible exact Fr.refl _ _) | (with_reducible assumption) | (with_reducible exact Fr.of_nil (by assumption)) | (with_reducible refine Fr.drew ?_) | (with_reducible refine Fr.drewN ?_ _) | (with_reducible refine Fr.alloc ?_ _) | (with_reducible refine Fr.set ?_ _ _ (by first | (intros; omega) | (simp; done) | (simp; omega)))))) (fun _ _ q => q)⟩
                  case measure => simp [intOf]; omega
                · rw [List.concat_eq_append] at hst2 htl HB
                  simp only [List.length_append, List.length_cons, List.length_nil] at htl
                  by_cases hfresh : l'.length < td
                  · obtain rfl : td = l'.length + 1 := by omega
                    obtain rfl : y = ⟨7, l'.length, [nth fr l'.length]⟩ := by
                      have := HB.out l'.length (by omega)
                      simpa using this
                    have d2 : decide (l'.length < l'.length + 1) = true := by simp
                    have hmin : min (l'.length + 1) l'.length = l'.length := Nat.min_eq_right (by omega)
                    go_wp2_with fail
                    refine (do_pop_some (fun b => b = bs ∨ b = tb) bs (l' ++ [⟨7, l'.length, [nth fr l'.length]⟩]) 4096 (l'.length + 1) _ ⟨1, x.f.node, x.f.words⟩ _ l'.length ⟨7, l'.length, [nth fr l'.length]⟩ (by simp) (by simp) (fun b q => by have := hXX b q; simp; omega) (hst2.fr (S := Nil) (by (repeat (first | (with_reducible exact Fr.refl _ _) | (with_reducible assumption) | (with_reducible exact Fr.of_nil (by assumption)) | (with_reducible refine Fr.drew ?_) | (with_reducible refine Fr.drewN ?_ _) | (with_reducible refine Fr.alloc ?_ _) | (with_reducible refine Fr.set ?_ _ _ (by first | (intros; omega) | (simp; done) | (simp; omega)))))) (fun _ _ q => q.elim) (by simp [Nil]))).mono ?_
                    rintro e w7 ⟨b', rfl, hb', hbz, st7, f7⟩
                    rw [hmin] at st7
                    have g11 := f7.blk (b := wr.heap.size) (c := #[.int .i64 1, .int .i64 1, .int .i64 x.f.node, .slice a' x.f.words.length cap']) (t := 34) (by (unfold Blk; simp (disch := first | omega | (simp; done) | (simp; omega)) only [hp_drew, hp_drewN, hp_alloc, hp_other, hp_same, hp_new, upd_cells, Option.map_some]) <;> simp) (fun q => by have q' : wr.heap.size = bs := q; omega)
                    have c11 := g11.cell 0
                    simp at c11
                    have l11 := g11.lt
                    have fB : Fr (fun b => b = bs) wr w7 := Fr.trans (by (repeat (first | (with_reducible exact Fr.refl _ _) | (with_reducible assumption) | (with_reducible exact Fr.of_nil (by assumption)) | (with_reducible refine Fr.drew ?_) | (with_reducible refine Fr.drewN ?_ _) | (with_reducible refine Fr.alloc ?_ _) | (with_reducible refine Fr.set ?_ _ _ (by first | (intros; omega) | (simp; done) | (simp; omega)))))) f7 (fun _ _ q => q)
                    have hN7 := hN2.fr fB (fun b q => ⟨by omega, by omega, by omega, fun hp y hy q' => by have := haw hp y hy; omega⟩)
                    have hf7 : Fr Nil w w7 := hf2.trans fB (fun k hk q => by have q' : k = bs := q; omega)
                    have HS := Lib.hid st7
                    clear hst2 hN2 hf2 f7 fB hi0 g11 st7 k0 k1 k2 k3 hmin
                    simp only [toldV, d2]
                    go_wp2_with fail
                    refine (note_any w.heap.size (tb + 1) tb a cap fr l'.length _ Nil _ (hN7.fr (S := Nil) (by (repeat (first | (with_reducible exact Fr.refl _ _) | (with_reducible assumption) | (with_reducible exact Fr.of_nil (by assumption)) | (with_reducible refine Fr.drew ?_) | (with_reducible refine Fr.drewN ?_ _) | (with_reducible refine Fr.alloc ?_ _) | (with_reducible refine Fr.set ?_ _ _ (by first | (intros; omega) | (simp; done) | (simp; omega)))))) (fun _ q => q.elim)) (by omega) h60 (IntsAt.of_blk (l := [nth fr l'.length]) (Fr.blk (S := Nil) (by (repeat (first | (with_reducible exact Fr.refl _ _) | (with_reducible assumption) | (with_reducible exact Fr.of_nil (by assumption)) | (with_reducible refine Fr.drew ?_) | (with_reducible refine Fr.drewN ?_ _) | (with_reducible refine Fr.alloc ?_ _) | (with_reducible refine Fr.set ?_ _ _ (by first | (intros; omega) | (simp; done) | (simp; omega)))))) hb' (by simp [Nil])) (by simp [Nil]) _)).mono ?_
                    rintro e w8 ⟨rfl, hN8, f8⟩
                    have fC : Fr (fun b => b = tb) w7 w8 := Fr.trans (by (repeat (first | (with_reducible exact Fr.refl _ _) | (with_reducible assumption) | (with_reducible exact Fr.of_nil (by assumption)) | (with_reducible refine Fr.drew ?_) | (with_reducible refine Fr.drewN ?_ _) | (with_reducible refine Fr.alloc ?_ _) | (with_reducible refine Fr.set ?_ _ _ (by first | (intros; omega) | (simp; done) | (simp; omega)))))) f8 (fun _ _ q => q)
                    have HS8 : StackAt (fun b => b = bs ∨ b = tb) w8 bs ((l' ++ [(⟨7, l'.length, [nth fr l'.length]⟩ : FrameV)]).take l'.length) 4096 l'.length := HS.out.fr fC (fun _ _ q => .inr q) (fun q => by have q' : bs = tb := q; omega)
                    have hf8 : Fr Nil w w8 := hf7.trans fC (fun k hk q => by have q' : k = tb := q; omega)
                    have HS := Lib.hid HS8
                    clear HS8 f8 fC hN7 hf7
                    go_wp2
                    go_roundw
                    case rel => exact ⟨j + 1, _, l'.length, by omega, by go_num, by omega, fun k hk => by rw [List.getElem?_take_of_lt (by omega)]; exact HB.out k (by omega), HS.out.fr (S := Nil) (by (repeat (first | (with_reducible exact Fr.refl _ _) | (with_reducible assumption) | (with_reducible exact Fr.of_nil (by assumption)) | (with_reducible refine Fr.drew ?_) | (with_reducible refine Fr.drewN ?_ _) | (with_reducible refine Fr.alloc ?_ _) | (with_reducible refine Fr.set ?_ _ _ (by first | (intros; omega) | (simp; done) | (simp; omega)))))) (fun _ _ q => q.elim) (by simp [Nil]), hN8.fr (S := Nil) (by (repeat (first | (with_reducible exact Fr.refl _ _) | (with_reducible assumption) | (with_reducible exact Fr.of_nil (by assumption)) | (with_reducible refine Fr.drew ?_) | (with_reducible refine Fr.drewN ?_ _) | (with_reducible refine Fr.alloc ?_ _) | (with_reducible refine Fr.set ?_ _ _ (by first | (intros; omega) | (simp; done) | (simp; omega)))))) (fun _ q => q.elim), Fr.trans hf8 (S' := Nil) (by (repeat (first | (with_reducible exact Fr.refl _ _) | (with_reducible assumption) | (with_reducible exact Fr.of_nil (by assumption)) | (with_reducible refine Fr.drew ?_) | (with_reducible refine Fr.drewN ?_ _) | (with_reducible refine Fr.alloc ?_ _) | (with_reducible refine Fr.set ?_ _ _ (by first | (intros; omega) | (simp; done) | (simp; omega)))))) (fun _ _ q => q)⟩
                    case measure => simp [intOf]; omega
                  · have d2 : decide (l'.length < td) = false := by simp; omega
                    have hmin : min td l'.length = td := Nat.min_eq_left (by omega)
                    go_wp2_with fail
                    refine (do_pop_some (fun b => b = bs ∨ b = tb) bs (l' ++ [y]) 4096 td _ ⟨1, x.f.node, x.f.words⟩ _ l'.length y (by simp) (by simp) (fun b q => by have := hXX b q; simp; omega) (hst2.fr (S := Nil) (by (repeat (first | (with_reducible exact Fr.refl _ _) | (with_reducible assumption) | (with_reducible exact Fr.of_nil (by assumption)) | (with_reducible refine Fr.drew ?_) | (with_reducible refine Fr.drewN ?_ _) | (with_reducible refine Fr.alloc ?_ _) | (with_reducible refine Fr.set ?_ _ _ (by first | (intros; omega) | (simp; done) | (simp; omega)))))) (fun _ _ q => q.elim) (by simp [Nil]))).mono ?_
                    rintro e w7 ⟨b', rfl, _, _, st7, f7⟩
                    rw [hmin] at st7
                    have g11 := f7.blk (b := wr.heap.size) (c := #[.int .i64 1, .int .i64 1, .int .i64 x.f.node, .slice a' x.f.words.length cap']) (t := 34) (by (unfold Blk; simp (disch := first | omega | (simp; done) | (simp; omega)) only [hp_drew, hp_drewN, hp_alloc, hp_other, hp_same, hp_new, upd_cells, Option.map_some]) <;> simp) (fun q => by have q' : wr.heap.size = bs := q; omega)
                    have c11 := g11.cell 0
                    simp at c11
                    have l11 := g11.lt
                    have fB : Fr (fun b => b = bs) wr w7 := Fr.trans (by (repeat (first | (with_reducible exact Fr.refl _ _) | (with_reducible assumption) | (with_reducible exact Fr.of_nil (by assumption)) | (with_reducible refine Fr.drew ?_) | (with_reducible refine Fr.drewN ?_ _) | (with_reducible refine Fr.alloc ?_ _) | (with_reducible refine Fr.set ?_ _ _ (by first | (intros; omega) | (simp; done) | (simp; omega)))))) f7 (fun _ _ q => q)
                    have hN7 := hN2.fr fB (fun b q => ⟨by omega, by omega, by omega, fun hp y hy q' => by have := haw hp y hy; omega⟩)
                    have hf7 : Fr Nil w w7 := hf2.trans fB (fun k hk q => by have q' : k = bs := q; omega)
                    have HS := Lib.hid st7
                    clear hst2 hN2 hf2 f7 fB hi0 g11 st7 k0 k1 k2 k3 hmin
                    simp only [toldV, d2]
                    go_wp2
                    go_roundw
                    case rel => exact ⟨j + 1, _, td, by omega, by go_num, htd, fun k hk => by rw [List.getElem?_take_of_lt (by omega)]; exact HB.out k hk, HS.out.fr (S := Nil) (by (repeat (first | (with_reducible exact Fr.refl _ _) | (with_reducible assumption) | (with_reducible exact Fr.of_nil (by assumption)) | (with_reducible refine Fr.drew ?_) | (with_reducible refine Fr.drewN ?_ _) | (with_reducible refine Fr.alloc ?_ _) | (with_reducible refine Fr.set ?_ _ _ (by first | (intros; omega) | (simp; done) | (simp; omega)))))) (fun _ _ q => q.elim) (by simp [Nil]), hN7.fr (S := Nil) (by (repeat (first | (with_reducible exact Fr.refl _ _) | (with_reducible assumption) | (with_reducible exact Fr.of_nil (by assumption)) | (with_reducible refine Fr.drew ?_) | (with_reducible refine Fr.drewN ?_ _) | (with_reducible refine Fr.alloc ?_ _) | (with_reducible refine Fr.set ?_ _ _ (by first | (intros; omega) | (simp; done) | (simp; omega)))))) (fun _ q => q.elim), Fr.trans hf7 (S' := Nil) (by (repeat (first | (with_reducible exact Fr.refl _ _) | (with_reducible assumption) | (with_reducible exact Fr.of_nil (by assumption)) | (with_reducible refine Fr.drew ?_) | (with_reducible refine Fr.drewN ?_ _) | (with_reducible refine Fr.alloc ?_ _) | (with_reducible refine Fr.set ?_ _ _ (by first | (intros; omega) | (simp; done) | (simp; omega)))))) (fun _ _ q => q)⟩
                    case measure => simp [intOf]; omega
              · by_cases h2 : x.kind = 2
                · rw [h2] at k0
                  clear h3 h0 h1 h2
                  rcases List.eq_nil_or_concat ls with rfl | ⟨l', y, rfl⟩
                  · go_wp2_with fail
                    refine (do_top_none (fun b => b = bs ∨ b = tb) bs 4096 td _ ⟨1, x.f.node, x.f.words⟩ _ (hst2.fr (S := Nil) (by (repeat (first | (with_reducible exact Fr.refl _ _) | (with_reducible assumption) | (with_reducible exact Fr.of_nil (by assumption)) | (with_reducible refine Fr.drew ?_) | (with_reducible refine Fr.drewN ?_ _) | (with_reducible refine Fr.alloc ?_ _) | (with_reducible refine Fr.set ?_ _ _ (by first | (intros; omega) | (simp; done) | (simp; omega)))))) (fun _ _ q => q.elim) (by simp [Nil]))).mono ?_
                    rintro e w7 ⟨rfl, f7⟩
                    have g11 := f7.blk (b := wr.heap.size) (c := #[.int .i64 2, .int .i64 1, .int .i64 x.f.node, .slice a' x.f.words.length cap']) (t := 34) (by (unfold Blk; simp (disch := first | omega | (simp; done) | (simp; omega)) only [hp_drew, hp_drewN, hp_alloc, hp_other, hp_same, hp_new, upd_cells, Option.map_some]) <;> simp) (by simp [Nil])
                    have c11 := g11.cell 0
                    simp at c11
                    have l11 := g11.lt
                    have fB : Fr Nil wr w7 := Fr.trans (by (repeat (first | (with_reducible exact Fr.refl _ _) | (with_reducible assumption) | (with_reducible exact Fr.of_nil (by assumption)) | (with_reducible refine Fr.drew ?_) | (with_reducible refine Fr.drewN ?_ _) | (with_reducible refine Fr.alloc ?_ _) | (with_reducible refine Fr.set ?_ _ _ (by first | (intros; omega) | (simp; done) | (simp; omega)))))) f7 (fun _ _ q => q)
                    have hN7 := hN2.fr fB (fun b q => q.elim)
                    have hf7 : Fr Nil w w7 := hf2.comp fB
                    have st7 := hst2.fr fB (fun _ _ q => q.elim) (by simp [Nil])
                    have HS := Lib.hid st7
                    clear hst2 hN2 hf2 f7 fB hi0 g11 st7 k0 k1 k2 k3
                    simp only [toldV, noF]
                    go_wp2
                    go_roundw
                    case rel => exact ⟨j + 1, _, td, by omega, by go_num, htd, HB.out, HS.out.fr (S := Nil) (by (repeat (first | (with_reducible exact Fr.refl _ _) | (with_reducible assumption) | (with_reducible exact Fr.of_nil (by assumption)) | (with_reducible refine Fr.drew ?_) | (with_reducible refine Fr.drewN ?_ _) | (with_reducible refine Fr.alloc ?_ _) | (with_reducible refine Fr.set ?_ _ _ (by first | (intros; omega) | (simp; done) | (simp; omega)))))) (fun _ _ q => q.elim) (by simp [Nil]), hN7.fr (S := Nil) (by (repeat (first | (with_reducible exact Fr.refl _ _) | (with_reducible assumption) | (with_reducible exact Fr.of_nil (by assumption)) | (with_reducible refine Fr.drew ?_) | (with_reducible refine Fr.drewN ?_ _) | (with_reducible refine Fr.alloc ?_ _) | (with_reducible refine Fr.set ?_ _ _ (by first | (intros; omega) | (simp; done) | (simp; omega)))))) (fun _ q => q.elim), Fr.trans hf7 (S' := Nil) (by (repeat (first | (with_reducible exact Fr.refl _ _) | (with_reducible assumption) | (with_reducible exact Fr.of_nil (by assumption)) | (with_reducible refine Fr.drew ?_) | (with_reducible refine Fr.drewN ?_ _) | (with_reducible refine Fr.alloc ?_ _) | (with_reducible refine Fr.set ?_ _ _ (by first | (intros; omega) | (simp; done) | (simp; omega)))))) (fun _ _ q => q)⟩
                    case measure => simp [intOf]; omega
                  · rw [List.concat_eq_append] at hst2 htl HB
                    go_wp2_with fail
                    refine (do_top_some (fun b => b = bs ∨ b = tb) bs (l' ++ [y]) 4096 td _ ⟨1, x.f.node, x.f.words⟩ _ l'.length y (by simp) (by simp) (fun b q => by have := hXX b q; simp; omega) (hst2.fr (S := Nil) (by (repeat (first | (with_reducible exact Fr.refl _ _) | (with_reducible assumption) | (with_reducible exact Fr.of_nil (by assumption)) | (with_reducible refine Fr.drew ?_) | (with_reducible refine Fr.drewN ?_ _) | (with_reducible refine Fr.alloc ?_ _) | (with_reducible refine Fr.set ?_ _ _ (by first | (intros; omega) | (simp; done) | (simp; omega)))))) (fun _ _ q => q.elim) (by simp [Nil]))).mono ?_
                    rintro e w7 ⟨b', rfl, _, _, f7⟩
                    have g11 := f7.blk (b := wr.heap.size) (c := #[.int .i64 2, .int .i64 1, .int .i64 x.f.node, .slice a' x.f.words.length cap']) (t := 34) (by (unfold Blk; simp (disch := first | omega | (simp; done) | (simp; omega)) only [hp_drew, hp_drewN, hp_alloc, hp_other, hp_same, hp_new, upd_cells, Option.map_some]) <;> simp) (by simp [Nil])
                    have c11 := g11.cell 0
                    simp at c11
                    have l11 := g11.lt
                    have fB : Fr Nil wr w7 := Fr.trans (by (repeat (first | (with_reducible exact Fr.refl _ _) | (with_reducible assumption) | (with_reducible exact Fr.of_nil (by assumption)) | (with_reducible refine Fr.drew ?_) | (with_reducible refine Fr.drewN ?_ _) | (with_reducible refine Fr.alloc ?_ _) | (with_reducible refine Fr.set ?_ _ _ (by first | (intros; omega) | (simp; done) | (simp; omega)))))) f7 (fun _ _ q => q)
                    have hN7 := hN2.fr fB (fun b q => q.elim)
                    have hf7 : Fr Nil w w7 := hf2.comp fB
                    have st7 := hst2.fr fB (fun _ _ q => q.elim) (by simp [Nil])
                    have HS := Lib.hid st7
                    clear hst2 hN2 hf2 f7 fB hi0 g11 st7 k0 k1 k2 k3
                    simp only [toldV]
                    go_wp2
                    go_roundw
                    case rel => exact ⟨j + 1, _, td, by omega, by go_num, htd, HB.out, HS.out.fr (S := Nil) (by (repeat (first | (with_reducible exact Fr.refl _ _) | (with_reducible assumption) | (with_reducible exact Fr.of_nil (by assumption)) | (with_reducible refine Fr.drew ?_) | (with_reducible refine Fr.drewN ?_ _) | (with_reducible refine Fr.alloc ?_ _) | (with_reducible refine Fr.set ?_ _ _ (by first | (intros; omega) | (simp; done) | (simp; omega)))))) (fun _ _ q => q.elim) (by simp [Nil]), hN7.fr (S := Nil) (by (repeat (first | (with_reducible exact Fr.refl _ _) | (with_reducible assumption) | (with_reducible exact Fr.of_nil (by assumption)) | (with_reducible refine Fr.drew ?_) | (with_reducible refine Fr.drewN ?_ _) | (with_reducible refine Fr.alloc ?_ _) | (with_reducible refine Fr.set ?_ _ _ (by first | (intros; omega) | (simp; done) | (simp; omega)))))) (fun _ q => q.elim), Fr.trans hf7 (S' := Nil) (by (repeat (first | (with_reducible exact Fr.refl _ _) | (with_reducible assumption) | (with_reducible exact Fr.of_nil (by assumption)) | (with_reducible refine Fr.drew ?_) | (with_reducible refine Fr.drewN ?_ _) | (with_reducible refine Fr.alloc ?_ _) | (with_reducible refine Fr.set ?_ _ _ (by first | (intros; omega) | (simp; done) | (simp; omega)))))) (fun _ _ q => q)⟩
                    case measure => simp [intOf]; omega
                · rcases (by omega : x.kind < 0 ∨ 3 < x.kind) with hneg | hbig
                  all_goals
                    rcases td with _ | k
                    · go_wp2_with fail
                      refine (do_scan_none (fun b => b = bs ∨ b = tb) bs ls 4096 _ ⟨1, x.f.node, x.f.words⟩ _ x.kind h0 h1 h2 h3 (hst2.fr (S := Nil) (by (repeat (first | (with_reducible exact Fr.refl _ _) | (with_reducible assumption) | (with_reducible exact Fr.of_nil (by assumption)) | (with_reducible refine Fr.drew ?_) | (with_reducible refine Fr.drewN ?_ _) | (with_reducible refine Fr.alloc ?_ _) | (with_reducible refine Fr.set ?_ _ _ (by first | (intros; omega) | (simp; done) | (simp; omega)))))) (fun _ _ q => q.elim) (by simp [Nil]))).mono ?_
                      rintro e w7 ⟨rfl, f7⟩
                      have g11 := f7.blk (b := wr.heap.size) (c := #[.int .i64 x.kind, .int .i64 1, .int .i64 x.f.node, .slice a' x.f.words.length cap']) (t := 34) (by (unfold Blk; simp (disch := first | omega | (simp; done) | (simp; omega)) only [hp_drew, hp_drewN, hp_alloc, hp_other, hp_same, hp_new, upd_cells, Option.map_some]) <;> simp) (by simp [Nil])
                      have c11 := g11.cell 0
                      simp at c11
                      have l11 := g11.lt
                      have fB : Fr Nil wr w7 := Fr.trans (by (repeat (first | (with_reducible exact Fr.refl _ _) | (with_reducible assumption) | (with_reducible exact Fr.of_nil (by assumption)) | (with_reducible refine Fr.drew ?_) | (with_reducible refine Fr.drewN ?_ _) | (with_reducible refine Fr.alloc ?_ _) | (with_reducible refine Fr.set ?_ _ _ (by first | (intros; omega) | (simp; done) | (simp; omega)))))) f7 (fun _ _ q => q)
                      have hN7 := hN2.fr fB (fun b q => q.elim)
                      have hf7 : Fr Nil w w7 := hf2.comp fB
                      have st7 := hst2.fr fB (fun _ _ q => q.elim) (by simp [Nil])
                      have HS := Lib.hid st7
                      clear hst2 hN2 hf2 f7 fB hi0 g11 st7 k0 k1 k2 k3
                      simp only [toldV, noF]
                      go_wp2
                      go_roundw
                      case rel => exact ⟨j + 1, _, 0, by omega, by go_num, htd, HB.out, HS.out.fr (S := Nil) (by (repeat (first | (with_reducible exact Fr.refl _ _) | (with_reducible assumption) | (with_reducible exact Fr.of_nil (by assumption)) | (with_reducible refine Fr.drew ?_) | (with_reducible refine Fr.drewN ?_ _) | (with_reducible refine Fr.alloc ?_ _) | (with_reducible refine Fr.set ?_ _ _ (by first | (intros; omega) | (simp; done) | (simp; omega)))))) (fun _ _ q => q.elim) (by simp [Nil]), hN7.fr (S := Nil) (by (repeat (first | (with_reducible exact Fr.refl _ _) | (with_reducible assumption) | (with_reducible exact Fr.of_nil (by assumption)) | (with_reducible refine Fr.drew ?_) | (with_reducible refine Fr.drewN ?_ _) | (with_reducible refine Fr.alloc ?_ _) | (with_reducible refine Fr.set ?_ _ _ (by first | (intros; omega) | (simp; done) | (simp; omega)))))) (fun _ q => q.elim), Fr.trans hf7 (S' := Nil) (by (repeat (first | (with_reducible exact Fr.refl _ _) | (with_reducible assumption) | (with_reducible exact Fr.of_nil (by assumption)) | (with_reducible refine Fr.drew ?_) | (with_reducible refine Fr.drewN ?_ _) | (with_reducible refine Fr.alloc ?_ _) | (with_reducible refine Fr.set ?_ _ _ (by first | (intros; omega) | (simp; done) | (simp; omega)))))) (fun _ _ q => q)⟩
                      case measure => simp [intOf]; omega
                    · have hk := HB.out k (by omega)
                      have HK := Lib.hid hk
                      clear hk
                      go_wp2_with fail
                      refine (do_scan_some (fun b => b = bs ∨ b = tb) bs ls 4096 _ ⟨1, x.f.node, x.f.words⟩ _ x.kind h0 h1 h2 h3 k ⟨7, k, [nth fr k]⟩ HK.out (fun b q => by have := hXX b q; simp; omega) (hst2.fr (S := Nil) (by (repeat (first | (with_reducible exact Fr.refl _ _) | (with_reducible assumption) | (with_reducible exact Fr.of_nil (by assumption)) | (with_reducible refine Fr.drew ?_) | (with_reducible refine Fr.drewN ?_ _) | (with_reducible refine Fr.alloc ?_ _) | (with_reducible refine Fr.set ?_ _ _ (by first | (intros; omega) | (simp; done) | (simp; omega)))))) (fun _ _ q => q.elim) (by simp [Nil]))).mono ?_
                      rintro e w7 ⟨b', rfl, hb', hbz, st7, f7⟩
                      have g11 := f7.blk (b := wr.heap.size) (c := #[.int .i64 x.kind, .int .i64 1, .int .i64 x.f.node, .slice a' x.f.words.length cap']) (t := 34) (by (unfold Blk; simp (disch := first | omega | (simp; done) | (simp; omega)) only [hp_drew, hp_drewN, hp_alloc, hp_other, hp_same, hp_new, upd_cells, Option.map_some]) <;> simp) (fun q => by have q' : wr.heap.size = bs := q; omega)
                      have c11 := g11.cell 0
                      simp at c11
                      have l11 := g11.lt
                      have fB : Fr (fun b => b = bs) wr w7 := Fr.trans (by (repeat (first | (with_reducible exact Fr.refl _ _) | (with_reducible assumption) | (with_reducible exact Fr.of_nil (by assumption)) | (with_reducible refine Fr.drew ?_) | (with_reducible refine Fr.drewN ?_ _) | (with_reducible refine Fr.alloc ?_ _) | (with_reducible refine Fr.set ?_ _ _ (by first | (intros; omega) | (simp; done) | (simp; omega)))))) f7 (fun _ _ q => q)
                      have hN7 := hN2.fr fB (fun b q => ⟨by omega, by omega, by omega, fun hp y hy q' => by have := haw hp y hy; omega⟩)
                      have hf7 : Fr Nil w w7 := hf2.trans fB (fun k hk q => by have q' : k = bs := q; omega)
                      have HS := Lib.hid st7
                      clear hst2 hN2 hf2 f7 fB hi0 g11 st7 k0 k1 k2 k3
                      simp only [toldV]
                      go_wp2_with fail
                      refine (note_any w.heap.size (tb + 1) tb a cap fr k _ Nil _ (hN7.fr (S := Nil) (by (repeat (first | (with_reducible exact Fr.refl _ _) | (with_reducible assumption) | (with_reducible exact Fr.of_nil (by assumption)) | (with_reducible refine Fr.drew ?_) | (with_reducible refine Fr.drewN ?_ _) | (with_reducible refine Fr.alloc ?_ _) | (with_reducible refine Fr.set ?_ _ _ (by first | (intros; omega) | (simp; done) | (simp; omega)))))) (fun _ q => q.elim)) (by omega) h60 (IntsAt.of_blk (l := [nth fr k]) (Fr.blk (S := Nil) (by (repeat (first | (with_reducible exact Fr.refl _ _) | (with_reducible assumption) | (with_reducible exact Fr.of_nil (by assumption)) | (with_reducible refine Fr.drew ?_) | (with_reducible refine Fr.drewN ?_ _) | (with_reducible refine Fr.alloc ?_ _) | (with_reducible refine Fr.set ?_ _ _ (by first | (intros; omega) | (simp; done) | (simp; omega)))))) hb' (by simp [Nil])) (by simp [Nil]) _)).mono ?_
                      rintro e w8 ⟨rfl, hN8, f8⟩
                      have fC : Fr (fun b => b = tb) w7 w8 := Fr.trans (by (repeat (first | (with_reducible exact Fr.refl _ _) | (with_reducible assumption) | (with_reducible exact Fr.of_nil (by assumption)) | (with_reducible refine Fr.drew ?_) | (with_reducible refine Fr.drewN ?_ _) | (with_reducible refine Fr.alloc ?_ _) | (with_reducible refine Fr.set ?_ _ _ (by first | (intros; omega) | (simp; done) | (simp; omega)))))) f8 (fun _ _ q => q)
                      have HS8 : StackAt (fun b => b = bs ∨ b = tb) w8 bs ls 4096 k := HS.out.fr fC (fun _ _ q => .inr q) (fun q => by have q' : bs = tb := q; omega)
                      have hf8 : Fr Nil w w8 := hf7.trans fC (fun k hk q => by have q' : k = tb := q; omega)
                      have HS := Lib.hid HS8
                      clear HS8 f8 fC hN7 hf7
                      go_wp2
                      go_roundw
                      case rel => exact ⟨j + 1, _, k, by omega, by go_num, by omega, fun i hi => HB.out i (by omega), HS.out.fr (S := Nil) (by (repeat (first | (with_reducible exact Fr.refl _ _) | (with_reducible assumption) | (with_reducible exact Fr.of_nil (by assumption)) | (with_reducible refine Fr.drew ?_) | (with_reducible refine Fr.drewN ?_ _) | (with_reducible refine Fr.alloc ?_ _) | (with_reducible refine Fr.set ?_ _ _ (by first | (intros; omega) | (simp; done) | (simp; omega)))))) (fun _ _ q => q.elim) (by simp [Nil]), hN8.fr (S := Nil) (by (repeat (first | (with_reducible exact Fr.refl _ _) | (with_reducible assumption) | (with_reducible exact Fr.of_nil (by assumption)) | (with_reducible refine Fr.drew ?_) | (with_reducible refine Fr.drewN ?_ _) | (with_reducible refine Fr.alloc ?_ _) | (with_reducible refine Fr.set ?_ _ _ (by first | (intros; omega) | (simp; done) | (simp; omega)))))) (fun _ q => q.elim), Fr.trans hf8 (S' := Nil) (by (repeat (first | (with_reducible exact Fr.refl _ _) | (with_reducible assumption) | (with_reducible exact Fr.of_nil (by assumption)) | (with_reducible refine Fr.drew ?_) | (with_reducible refine Fr.drewN ?_ _) | (with_reducible refine Fr.alloc ?_ _) | (with_reducible refine Fr.set ?_ _ _ (by first | (intros; omega) | (simp; done) | (simp; omega)))))) (fun _ _ q => q)⟩
                      case measure => simp [intOf]; omega
        · obtain rfl : j = l.length := by omega
          clear hlt hc hrow hshort
          go_wp2
          go_loopg [] td (fun k wr => k ≤ fr.length ∧ (∀ i, i < k → ls[i]? = some ⟨7, i, [nth fr i]⟩) ∧ StackAt (fun b => b = bs ∨ b = tb) wr bs ls 4096 k ∧ Notes wr w.heap.size (tb + 1) tb a cap fr k ∧ Fr Nil w wr)
          case atStart => exact ⟨htd, hbase, hst2, hN2, hf2⟩
          case round =>
            obtain ⟨hk, hb, st, hN, hf⟩ := hrel
            clear hst2 hN2 hf2 hbase htd
            have hbs2 := st.lt
            have htb2 := hN.told.lt
            cases gk with
            | zero =>
              go_wp2_with fail
              refine (sleft_any (fun b => b = bs ∨ b = tb) bs ls 4096 0 _ st).mono ?_
              rintro e w5 ⟨rfl, rfl⟩
              go_wp2
              go_loop [17] (fun i => ∃ j : Nat, j ≤ fr.length ∧ i = .int .i64 j) (fun i => fr.length - (intOf i).toNat)
              case atStart => exact ⟨0, Nat.zero_le _, rfl⟩
              case round =>
                obtain ⟨j, hj, rfl⟩ := hrel
                have t0 := hN.tvar.cell 0
                simp at t0
                by_cases hlt : j < fr.length
                · have ht := (hN.told.cell j).trans (ints_at _ j (by rw [toldL_len (by omega)]; exact hlt))
                  rw [show nth (toldL fr.length 0) j = 1 by simp [nth, toldL, hlt]] at ht
                  have b1 : (0 : Int) ≤ (j : Int) := by omega
                  have b2 : (j : Int) < (fr.length : Int) := by omega
                  go_wp2
                  go_round
                  case rel => exact ⟨j + 1, by omega, by go_num⟩
                  case measure => simp [intOf]; omega
                · obtain rfl : j = fr.length := by omega
                  go_wp2_with fail
                  refine (scan_none (fun b => b = bs ∨ b = tb) bs ls 4096 _ st).mono ?_
                  rintro e w6 ⟨rfl, f6⟩
                  go_wp2
                  go_ret
                  exact ⟨rfl, hf.comp (f6.alloc _)⟩
            | succ k =>
              have HB := Lib.hid hb
              have HK := Lib.hid (hb k (by omega))
              clear hb
              go_wp2_with fail
              refine (sleft_any (fun b => b = bs ∨ b = tb) bs ls 4096 (k + 1) _ st).mono ?_
              rintro e w5 ⟨rfl, rfl⟩
              go_wp2_with fail
              refine (sleft_any (fun b => b = bs ∨ b = tb) bs ls 4096 (k + 1) _ st).mono ?_
              rintro e w5 ⟨rfl, rfl⟩
              go_wp2_with fail
              refine (scan_some (fun b => b = bs ∨ b = tb) bs ls 4096 _ k ⟨7, k, [nth fr k]⟩ HK.out (fun b q => by rcases q with q | q <;> omega) (st.fr (S := Nil) (by (repeat (first | (with_reducible exact Fr.refl _ _) | (with_reducible assumption) | (with_reducible exact Fr.of_nil (by assumption)) | (with_reducible refine Fr.drew ?_) | (with_reducible refine Fr.drewN ?_ _) | (with_reducible refine Fr.alloc ?_ _) | (with_reducible refine Fr.set ?_ _ _ (by first | (intros; omega) | (simp; done) | (simp; omega)))))) (fun _ _ q => q.elim) (by simp [Nil]))).mono ?_
              rintro e w7 ⟨b', rfl, hb', hbz, st7, f7⟩
              have fB : Fr (fun b => b = bs) wr w7 := Fr.trans (by (repeat (first | (with_reducible exact Fr.refl _ _) | (with_reducible assumption) | (with_reducible exact Fr.of_nil (by assumption)) | (with_reducible refine Fr.drew ?_) | (with_reducible refine Fr.drewN ?_ _) | (with_reducible refine Fr.alloc ?_ _) | (with_reducible refine Fr.set ?_ _ _ (by first | (intros; omega) | (simp; done) | (simp; omega)))))) f7 (fun _ _ q => q)
              have hN7 := hN.fr fB (fun b q => ⟨by omega, by omega, by omega, fun hp y hy q' => by have := haw hp y hy; omega⟩)
              have hf7 : Fr Nil w w7 := hf.trans fB (fun k hk q => by have q' : k = bs := q; omega)
              have HS := Lib.hid st7
              clear st hN hf f7 fB st7
              go_wp2_with fail
              refine (note_any w.heap.size (tb + 1) tb a cap fr k _ Nil _ (hN7.fr (S := Nil) (by (repeat (first | (with_reducible exact Fr.refl _ _) | (with_reducible assumption) | (with_reducible exact Fr.of_nil (by assumption)) | (with_reducible refine Fr.drew ?_) | (with_reducible refine Fr.drewN ?_ _) | (with_reducible refine Fr.alloc ?_ _) | (with_reducible refine Fr.set ?_ _ _ (by first | (intros; omega) | (simp; done) | (simp; omega)))))) (fun _ q => q.elim)) (by omega) h60 (IntsAt.of_blk (l := [nth fr k]) (Fr.blk (S := Nil) (by (repeat (first | (with_reducible exact Fr.refl _ _) | (with_reducible assumption) | (with_reducible exact Fr.of_nil (by assumption)) | (with_reducible refine Fr.drew ?_) | (with_reducible refine Fr.drewN ?_ _) | (with_reducible refine Fr.alloc ?_ _) | (with_reducible refine Fr.set ?_ _ _ (by first | (intros; omega) | (simp; done) | (simp; omega)))))) hb' (by simp [Nil])) (by simp [Nil]) _)).mono ?_
              rintro e w8 ⟨rfl, hN8, f8⟩
              have fC : Fr (fun b => b = tb) w7 w8 := Fr.trans (by (repeat (first | (with_reducible exact Fr.refl _ _) | (with_reducible assumption) | (with_reducible exact Fr.of_nil (by assumption)) | (with_reducible refine Fr.drew ?_) | (with_reducible refine Fr.drewN ?_ _) | (with_reducible refine Fr.alloc ?_ _) | (with_reducible refine Fr.set ?_ _ _ (by first | (intros; omega) | (simp; done) | (simp; omega)))))) f8 (fun _ _ q => q)
              have st8 : StackAt (fun b => b = bs ∨ b = tb) w8 bs ls 4096 k := HS.out.fr fC (fun _ _ q => .inr q) (fun q => by have q' : bs = tb := q; omega)
              have hf8 : Fr Nil w w8 := hf7.trans fC (fun k hk q => by have q' : k = tb := q; omega)
              clear f8 fC hN7 hf7 HS
              go_wp2_with fail
              refine (sleft_any (fun b => b = bs ∨ b = tb) bs ls 4096 k _ st8).mono ?_
              rintro e w5 ⟨rfl, rfl⟩
              go_wp2
              go_roundg k
              case rel => exact ⟨by omega, fun i hi => HB.out i (by omega), st8, hN8, hf8⟩
              case measure => omega
theorem once_any (v : Value) (fr : List Int) (va : Value) (l : List ActF) (w : World) (h : RowInts w v fr) (_hl : fr.length ≤ 9223372036854775807) (ha : RowFrames w va l) (hlen : l.length ≤ 9223372036854775807) :
    Calls Try.prog 4 #[v, va] w fun e w' => e = .returned (.bool true) ∧ Fr Nil w w' := by
  by_cases h60 : fr.length ≤ 60
  · cases hfew : fewB l with
    | true => exact once_in v va fr l w h h60 ha hlen hfew
    | false =>
      have hrow := ha
      obtain ⟨aa, capa, rfl, hc⟩ := ha
      obtain ⟨a, cap, rfl, hd⟩ := h
      clear hc hd
      go_enter Try.func4, Try.ntmps4
      go_wp2_with fail
      refine (awake_any _).mono ?_
      rintro e w1 ⟨rfl, f1⟩
      have hb1 := f1.blk (b := w.heap.size) (c := #[.slice a fr.length cap]) (t := 30) (by (unfold Blk; simp (disch := first | omega | (simp; done) | (simp; omega)) only [hp_drew, hp_drewN, hp_alloc, hp_other, hp_same, hp_new, upd_cells, Option.map_some])) (by simp [Nil])
      have ff1 : Fr Nil w w1 := Fr.trans (by (repeat (first | (with_reducible exact Fr.refl _ _) | (with_reducible assumption) | (with_reducible exact Fr.of_nil (by assumption)) | (with_reducible refine Fr.drew ?_) | (with_reducible refine Fr.drewN ?_ _) | (with_reducible refine Fr.alloc ?_ _) | (with_reducible refine Fr.set ?_ _ _ (by first | (intros; omega) | (simp; done) | (simp; omega)))))) f1 (fun _ _ q => q)
      have c1 := hb1.cell 0
      simp at c1
      clear f1
      go_wp2_with fail
      refine (few_any _ l w1 (hrow.fr ff1) hlen).mono ?_
      rintro e w2 ⟨rfl, rfl⟩
      rw [hfew]
      clear hrow
      go_wp2
      go_ret
      exact ⟨rfl, ff1⟩
  · obtain ⟨aa, capa, rfl, hc⟩ := ha
    obtain ⟨a, cap, rfl, hd⟩ := h
    clear hc hd
    have d1 : decide (60 < (fr.length : Int)) = true := by simp; omega
    go_enter Try.func4, Try.ntmps4
    go_wp2_with fail
    refine (awake_any _).mono ?_
    rintro e w1 ⟨rfl, f1⟩
    have hb1 := f1.blk (b := w.heap.size) (c := #[.slice a fr.length cap]) (t := 30) (by (unfold Blk; simp (disch := first | omega | (simp; done) | (simp; omega)) only [hp_drew, hp_drewN, hp_alloc, hp_other, hp_same, hp_new, upd_cells, Option.map_some])) (by simp [Nil])
    have ff1 : Fr Nil w w1 := Fr.trans (by (repeat (first | (with_reducible exact Fr.refl _ _) | (with_reducible assumption) | (with_reducible exact Fr.of_nil (by assumption)) | (with_reducible refine Fr.drew ?_) | (with_reducible refine Fr.drewN ?_ _) | (with_reducible refine Fr.alloc ?_ _) | (with_reducible refine Fr.set ?_ _ _ (by first | (intros; omega) | (simp; done) | (simp; omega)))))) f1 (fun _ _ q => q)
    have c1 := hb1.cell 0
    simp at c1
    clear f1
    go_wp2
    go_ret
    exact ⟨rfl, ff1⟩
end Go.Proofs.Ytncncoakibilcaa
