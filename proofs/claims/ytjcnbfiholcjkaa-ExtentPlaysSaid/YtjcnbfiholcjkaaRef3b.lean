/-
  Contract of the document's room (layer 3): Do. No conditions but sizes.
-/
import Derived.Test.YtjcnbfiholcjkaaRef3a
namespace Go.Proofs.Ytjcnbfiholcjkaa
set_option linter.unusedSimpArgs false
set_option linter.unusedVariables false
open Go.RowKit Go.Shelf

theorem RefAt.store {w : World} {rb f g cap n k : Nat} {bs : List Bool} (b : Bool) (h : RefAt w rb f (.slice (some ⟨g, 0, none⟩) n cap) bs) (hn : n = bs.length) : RefAt (w.setCell ⟨g, k, none⟩ (.bool b)) rb f (.slice (some ⟨g, 0, none⟩) n cap) (bs.set k b) :=
  ⟨h.blk.other (fun e => by have := (h.row.own (k := g) rfl).1; simp at e; omega) _, h.row.store b hn⟩
def takeT (n : Nat) (L : List (Nat × Nat)) : Nat × Nat × List (Nat × Nat) := match takeL n L with
  | none => (0, 2, L)
  | some r => (r.1, 0, r.2)
/-- What Do answers. -/
def DoneAt (w w' : World) (rb f p : Nat) (v : Value) (e : Ending) (T : Nat × Nat × List (Nat × Nat)) : Prop :=
  ∃ bs', e = .returned (.agg #[.int .i64 (T.1 : Nat), .int .i64 (T.2.1 : Nat)]) ∧ RefAt w' rb f v bs' ∧ bs'.length = p ∧ RefIs f bs' p T.2.2 ∧ Fr (TS rb v) w w'
section
variable (rb f p : Nat) (v : Value) (bs : List Bool) (L : List (Nat × Nat)) (w : World)
set_option maxRecDepth 100000 in
set_option maxHeartbeats 4000000 in
theorem rdo_take (h : RefAt w rb f v bs) (hl : bs.length = p) (hL : RefIs f bs p L) (hp : p ≤ 65536) (hf : f ≤ 65536) (a n : Int) :
    Calls Try.prog 11 #[.pointer (some ⟨rb, 0, none⟩), .agg #[.int .i64 0, .int .i64 a, .int .i64 n]] w fun e w' => DoneAt w w' rb f p v e (takeR n L) := by
  rw [show takeR n L = if n < 1 then (0, 1, L) else takeT n.toNat L from rfl]
  have hrb := h.blk.lt
  by_cases hn : n < 1
  · rw [if_pos hn]
    have H := Lib.hid (And.intro h (And.intro hl hL))
    clear h hl hL
    go_enter Try.func11, Try.ntmps11
    go_wp2
    refine bodyPost_ret (v := .agg #[.int .i64 0, .int .i64 1]) (by simp [results, Try.results11, go_sem]) rfl ⟨bs, rfl, H.out.1.fr (S := Nil) (by (repeat (first | (with_reducible exact Fr.refl _ _) | (with_reducible assumption) | (with_reducible exact Fr.of_nil (by assumption)) | (with_reducible refine Fr.drew ?_) | (with_reducible refine Fr.drewN ?_ _) | (with_reducible refine Fr.alloc ?_ _) | (with_reducible refine Fr.set ?_ _ _ (by first | (intros; omega) | (simp; done) | (simp; omega))) | (with_reducible refine Fr.via ?_ (by assumption)) | (with_reducible refine Fr.comp ?_ (by assumption))))) (fun _ _ q => q), H.out.2.1, H.out.2.2, by (repeat (first | (with_reducible exact Fr.refl _ _) | (with_reducible assumption) | (with_reducible exact Fr.of_nil (by assumption)) | (with_reducible refine Fr.drew ?_) | (with_reducible refine Fr.drewN ?_ _) | (with_reducible refine Fr.alloc ?_ _) | (with_reducible refine Fr.set ?_ _ _ (by first | (intros; omega) | (simp; done) | (simp; omega))) | (with_reducible refine Fr.via ?_ (by assumption)) | (with_reducible refine Fr.comp ?_ (by assumption))))⟩
  · rw [if_neg hn]
    obtain ⟨n, rfl⟩ := Int.eq_ofNat_of_zero_le (by omega : 0 ≤ n)
    rw [Int.toNat_natCast]
    have hn1 : 1 ≤ n := by omega
    obtain ⟨av, cv, rfl⟩ := h.row.shape
    rw [hl] at h ⊢
    have H := Lib.hid (And.intro h (And.intro hl hL))
    have C0 := h.blk.cell 0
    have C1 := h.blk.cell 1
    simp at C0 C1
    obtain ⟨T, hT⟩ : ∃ T, takeT n L = T := ⟨_, rfl⟩
    rw [hT]
    have HTE := Lib.hid hT
    clear h hl hL hT
    go_enter Try.func11, Try.ntmps11
    go_wp2_with fail
    refine (rlist_any rb f p _ bs L _ (H.out.1.fr (S := Nil) (by (repeat (first | (with_reducible exact Fr.refl _ _) | (with_reducible assumption) | (with_reducible exact Fr.of_nil (by assumption)) | (with_reducible refine Fr.drew ?_) | (with_reducible refine Fr.drewN ?_ _) | (with_reducible refine Fr.alloc ?_ _) | (with_reducible refine Fr.set ?_ _ _ (by first | (intros; omega) | (simp; done) | (simp; omega))) | (with_reducible refine Fr.via ?_ (by assumption)) | (with_reducible refine Fr.comp ?_ (by assumption))))) (fun _ _ q => q)) H.out.2.1 H.out.2.2 hp hf).mono ?_
    rintro e w1 ⟨v1, rfl, h1, f1⟩
    have g3 := f1.blk (b := w.heap.size) (c := #[.int .i64 0, .int .i64 a, .int .i64 (n : Int)]) (t := 35) (by (unfold Blk; simp (disch := first | omega | (simp; done) | (simp; omega)) only [hp_drew, hp_drewN, hp_alloc, hp_other, hp_same, hp_new, upd_cells, Option.map_some])) (fun q => q)
    have g4 := f1.blk (b := w.heap.size + 1) (c := #[.int .i64 0, .int .i64 0]) (t := 32) (by (unfold Blk; simp (disch := first | omega | (simp; done) | (simp; omega)) only [hp_drew, hp_drewN, hp_alloc, hp_other, hp_same, hp_new, upd_cells, Option.map_some])) (fun q => q)
    have hw1 : Fr Nil w w1 := by (repeat (first | (with_reducible exact Fr.refl _ _) | (with_reducible assumption) | (with_reducible exact Fr.of_nil (by assumption)) | (with_reducible refine Fr.drew ?_) | (with_reducible refine Fr.drewN ?_ _) | (with_reducible refine Fr.alloc ?_ _) | (with_reducible refine Fr.set ?_ _ _ (by first | (intros; omega) | (simp; done) | (simp; omega))) | (with_reducible refine Fr.via ?_ (by assumption)) | (with_reducible refine Fr.comp ?_ (by assumption))))
    have hb1 : w.heap.size + 2 ≤ w1.heap.size := by have := f1.size; simp at this; omega
    obtain ⟨a1, c1, rfl⟩ := h1.shape
    obtain ⟨N, hN⟩ : ∃ N, L.length = N := ⟨_, rfl⟩
    rw [hN] at h1 ⊢
    have hNm : N ≤ 131072 := by have := can_len' H.out.2.2.1; omega
    have hown : Hid (∀ k, TS rb (Value.slice av p cv) k → rb ≤ k ∧ k < w.heap.size) := fun k q => by
      refine ⟨?_, ?_⟩
      · rcases q with q | q
        · omega
        · have := (H.out.1.row.own (k := k) (by cases av <;> exact q)).1; omega
      · rcases q with q | q
        · omega
        · exact (H.out.1.row.own (k := k) (by cases av <;> exact q)).2
    have H1 := Lib.hid (And.intro h1 (And.intro hw1 (And.intro hN (And.intro g3 g4))))
    clear h1 hw1 hN g3 g4 f1
    go_wp2_with fail
    go_loopg [6] N (fun g iv wr => ∃ k : Nat, g = N - k ∧ k ≤ N ∧ iv = .int .i64 k ∧ Hid (∀ j (hj : j < L.length), j < k → ¬ n ≤ L[j].2) ∧ Fr Nil w1 wr)
    case atStart => exact ⟨0, rfl, by omega, rfl, Lib.hid (fun j _ q => absurd q (by omega)), Fr.refl _ _⟩
    case round =>
      obtain ⟨k, rfl, hk, rfl, HA, hw⟩ := hrel
      have g3 := hw.blk H1.out.2.2.2.1 (fun q => q)
      have g4 := hw.blk H1.out.2.2.2.2 (fun q => q)
      have u2 := g3.cell 2
      simp at u2
      have y0 := g4.free 0
      have y1 := g4.free 1
      have z0 := g4.cell 0
      have z1 := g4.cell 1
      simp at z0 z1
      have lt3 := g3.lt
      have lt4 := g4.lt
      have fw : Fr Nil w wr := H1.out.2.1.comp hw
      have c0 := fw.cell C0 (fun q => q)
      have c1 := fw.cell C1 (fun q => q)
      have lt1 := fw.lt hrb
      by_cases hlt : k < N
      · have hkl : k < L.length := by rw [H1.out.2.2.1]; exact hlt
        obtain ⟨g5, d5, e5⟩ := H1.out.1.form (by omega)
        have e5' : a1 = some ⟨g5, 0, none⟩ := by injection e5
        subst e5'
        obtain ⟨p0, p1⟩ := pair_cell (H1.out.1.fr hw) H1.out.2.2.1.symm k hkl
        have i0 : (0 : Int) ≤ (k : Int) := by omega
        have i1 : (k : Int) < (N : Int) := by omega
        have lt5 : g5 < wr.heap.size := World.block_lt_of_cell? wr _ p0
        have ge5 : w.heap.size + 2 ≤ g5 := by have := (H1.out.1.own (k := g5) rfl).1; simp at this; omega
        have m := can_mem H.out.2.2.1 _ (List.getElem_mem hkl)
        obtain ⟨x1, ex1⟩ : ∃ x1, L[k].1 = x1 := ⟨_, rfl⟩
        obtain ⟨x2, ex2⟩ : ∃ x2, L[k].2 = x2 := ⟨_, rfl⟩
        rw [ex1, ex2] at m
        rw [ex1] at p0
        rw [ex2] at p1
        have HE := Lib.hid (And.intro ex1 ex2)
        clear ex1 ex2 e5
        by_cases c : n ≤ x2
        · have t1 : (n : Int) ≤ (x2 : Int) := by omega
          obtain ⟨o, ho⟩ : ∃ o, x1 = f + o := ⟨x1 - f, by omega⟩
          have ht := takeL_some k hkl (by rw [HE.out.2]; exact c) (fun j hj => HA.out j (by omega) hj)
          rw [HE.out.1] at ht
          obtain ⟨M, hM⟩ : ∃ M, (if L[k].2 = n then L.eraseIdx k else L.set k (x1 + n, L[k].2 - n)) = M := ⟨_, rfl⟩
          rw [hM] at ht
          have hT := H.out.2.2.take H.out.2.1 hn1 ht
          rw [show x1 - f = o by omega] at hT
          have HT := Lib.hid hT
          have HTT := Lib.hid ht
          have w1' : IntKind.i64.wrap ((x1 : Int) - (f : Int)) = (o : Int) := by rw [IntKind.wrap_i64]; omega
          obtain ⟨gv, kv, ev⟩ := H.out.1.row.form (by have := H.out.2.1; omega)
          have ev' : av = some ⟨gv, 0, none⟩ := by injection ev
          subst ev'
          have hgv := H.out.1.row.own (k := gv) rfl
          clear hM ht hT ev
          go_wp2
          go_quiet (fail)
          go_wp2_with fail
          go_loopg [7] n (fun g iv wq => ∃ k2 : Nat, g = n - k2 ∧ k2 ≤ n ∧ iv = .int .i64 k2 ∧ RefAt wq rb f (.slice (some ⟨gv, 0, none⟩) p cv) (setR bs o false k2) ∧ Fr (TS rb (.slice (some ⟨gv, 0, none⟩) p cv)) wr wq)
          case atStart => exact ⟨0, rfl, by omega, rfl, H.out.1.fr (S := Nil) (show Fr Nil w _ from by (repeat (first | (with_reducible exact Fr.refl _ _) | (with_reducible assumption) | (with_reducible exact Fr.of_nil (by assumption)) | (with_reducible refine Fr.drew ?_) | (with_reducible refine Fr.drewN ?_ _) | (with_reducible refine Fr.alloc ?_ _) | (with_reducible refine Fr.set ?_ _ _ (by first | (intros; omega) | (simp; done) | (simp; omega))) | (with_reducible refine Fr.via ?_ (by assumption)) | (with_reducible refine Fr.comp ?_ (by assumption))))) (fun _ _ q => q), by (repeat (first | (with_reducible exact Fr.refl _ _) | (with_reducible assumption) | (with_reducible exact Fr.of_nil (by assumption)) | (with_reducible refine Fr.drew ?_) | (with_reducible refine Fr.drewN ?_ _) | (with_reducible refine Fr.alloc ?_ _) | (with_reducible refine Fr.set ?_ _ _ (by first | (intros; omega) | (simp; done) | (simp; omega))) | (with_reducible refine Fr.via ?_ (by assumption)) | (with_reducible refine Fr.comp ?_ (by assumption))))⟩
          case round =>
            obtain ⟨k2, rfl, hk2, rfl, hR, hq⟩ := hrel
            have s4 := hq.blk g4 (fun q => by have := (hown.out _ q).2; omega)
            have s3 := hq.blk g3 (fun q => by have := (hown.out _ q).2; omega)
            have r2 := s3.cell 2
            simp at r2
            have s0 := s4.cell 0
            have s1 := s4.cell 1
            simp at s0 s1
            have sy0 := s4.free 0
            have sy1 := s4.free 1
            have slt3 := s3.lt
            have slt4 := s4.lt
            have q0 := hq.cell p0 (fun q => by have := (hown.out _ q).2; simp at this; omega)
            have slt5 : g5 < wr.heap.size := World.block_lt_of_cell? wr _ q0
            have b0 := hR.blk.cell 0
            have b1 := hR.blk.cell 1
            simp at b0 b1
            have slt1 := hR.blk.lt
            by_cases hlt2 : k2 < n
            · have j1 : (k2 : Int) < (n : Int) := by omega
              have wo : IntKind.i64.wrap ((o : Int) + (k2 : Int)) = (o : Int) + (k2 : Int) := by rw [IntKind.wrap_i64]; omega
              have htn : ((o : Int) + (k2 : Int)).toNat = o + k2 := by omega
              have j2 : (0 : Int) ≤ (o : Int) + (k2 : Int) := by omega
              have j3 : (o : Int) + (k2 : Int) < (p : Int) := by omega
              have hlen : (setR bs o false k2).length = p := by rw [setR_len]; exact H.out.2.1
              have b3 := hR.row.cellAt hlen.symm (o + k2) (by omega)
              have b4 := hR.row.free (o + k2)
              have slt6 : gv < wr.heap.size := World.block_lt_of_cell? wr _ b3
              have HR := Lib.hid (And.intro hR hlen)
              have HQ := Lib.hid hq
              obtain ⟨bv, hbv⟩ : ∃ bv, (setR bs o false k2).getD (o + k2) false = bv := ⟨_, rfl⟩
              rw [hbv] at b3
              clear hR hlen hbv hq m hw fw ho
              go_wp2
              go_region
              all_goals
                go_wp2
                go_roundg (n - (k2 + 1))
                case rel =>
                  refine ⟨k2 + 1, rfl, by omega, by go_num, ?_, ?_⟩
                  · have := HR.out.1.store (k := o + k2) false HR.out.2.symm
                    first | exact this | exact RefAt.fr (S := Nil) this (by (repeat (first | (with_reducible exact Fr.refl _ _) | (with_reducible assumption) | (with_reducible exact Fr.of_nil (by assumption)) | (with_reducible refine Fr.drew ?_) | (with_reducible refine Fr.drewN ?_ _) | (with_reducible refine Fr.alloc ?_ _) | (with_reducible refine Fr.set ?_ _ _ (by first | (intros; omega) | (simp; done) | (simp; omega))) | (with_reducible refine Fr.via ?_ (by assumption)) | (with_reducible refine Fr.comp ?_ (by assumption))))) (fun _ _ q => q)
                  · exact HQ.out.trans (S' := TS rb (.slice (some ⟨gv, 0, none⟩) p cv)) (by first | exact (Fr.refl _ _).set _ _ (fun _ => .inr rfl) | exact (Fr.drew (Fr.refl _ _)).set _ _ (fun _ => .inr rfl) | exact ((Fr.refl _ _).set _ _ (fun _ => .inr rfl)).drew) (fun _ _ q => q)
                case measure => omega
            · obtain rfl : k2 = n := by omega
              have j1 : ¬ ((k2 : Int) < (k2 : Int)) := by omega
              have HR := Lib.hid hR
              have HQ := Lib.hid (fw.of_nil.comp hq)
              have hgv4 : gv ≠ w.heap.size + 1 := by omega
              clear hR hq m hw fw ho
              go_wp2
              refine bodyPost_ret (v := .agg #[.int .i64 (x1 : Int), .int .i64 0]) (by simp [results, Try.results11, go_sem, s0, s1]) rfl ?_
              rw [← HTE.out]
              unfold takeT
              rw [HTT.out]
              refine ⟨_, rfl, HR.out.fr (S := fun b => b = w.heap.size + 1) (by (repeat (first | (with_reducible exact Fr.refl _ _) | (with_reducible assumption) | (with_reducible exact Fr.of_nil (by assumption)) | (with_reducible refine Fr.drew ?_) | (with_reducible refine Fr.drewN ?_ _) | (with_reducible refine Fr.alloc ?_ _) | (with_reducible refine Fr.set ?_ _ _ (by first | (intros; omega) | (simp; done) | (simp; omega))) | (with_reducible refine Fr.via ?_ (by assumption)) | (with_reducible refine Fr.comp ?_ (by assumption))))) (fun q hq e => by have := (hown.out _ hq).2; omega), by rw [setR_len]; exact H.out.2.1, HT.out.2.2, ?_⟩
              exact HQ.out.trans (S' := fun b => b = w.heap.size + 1) (by (repeat (first | (with_reducible exact Fr.refl _ _) | (with_reducible assumption) | (with_reducible exact Fr.of_nil (by assumption)) | (with_reducible refine Fr.drew ?_) | (with_reducible refine Fr.drewN ?_ _) | (with_reducible refine Fr.alloc ?_ _) | (with_reducible refine Fr.set ?_ _ _ (by first | (intros; omega) | (simp; done) | (simp; omega))) | (with_reducible refine Fr.via ?_ (by assumption)) | (with_reducible refine Fr.comp ?_ (by assumption))))) (fun q hq e => by omega)
        · have t1 : ¬ (n : Int) ≤ (x2 : Int) := by omega
          clear fw
          go_wp2
          go_quiet (fail)
          go_wp2
          go_roundg (N - (k + 1))
          case rel =>
            refine ⟨k + 1, rfl, by omega, by go_num, Lib.hid (fun j hj hjk => ?_), by (repeat (first | (with_reducible exact Fr.refl _ _) | (with_reducible assumption) | (with_reducible exact Fr.of_nil (by assumption)) | (with_reducible refine Fr.drew ?_) | (with_reducible refine Fr.drewN ?_ _) | (with_reducible refine Fr.alloc ?_ _) | (with_reducible refine Fr.set ?_ _ _ (by first | (intros; omega) | (simp; done) | (simp; omega))) | (with_reducible refine Fr.via ?_ (by assumption)) | (with_reducible refine Fr.comp ?_ (by assumption))))⟩
            rcases Nat.lt_or_ge j k with q | q
            · exact HA.out j hj q
            · obtain rfl : j = k := by omega
              rw [HE.out.2]; exact c
          case measure => omega
      · obtain rfl : k = N := by omega
        have i1 : ¬ ((k : Int) < (k : Int)) := by omega
        have ht : takeL n L = none := takeL_none (fun x hx => by
          obtain ⟨j, hj, rfl⟩ := List.mem_iff_getElem.1 hx
          exact HA.out j hj (by have := H1.out.2.2.1; omega))
        have HTT := Lib.hid ht
        have HW := Lib.hid fw
        clear ht fw hw
        go_wp2
        refine bodyPost_ret (v := .agg #[.int .i64 0, .int .i64 2]) (by simp [results, Try.results11, go_sem, z0, z1]) rfl ?_
        rw [← HTE.out]
        unfold takeT
        rw [HTT.out]
        refine ⟨bs, rfl, H.out.1.fr (S := fun b => b = w.heap.size + 1) (HW.out.of_nil.comp (by (repeat (first | (with_reducible exact Fr.refl _ _) | (with_reducible assumption) | (with_reducible exact Fr.of_nil (by assumption)) | (with_reducible refine Fr.drew ?_) | (with_reducible refine Fr.drewN ?_ _) | (with_reducible refine Fr.alloc ?_ _) | (with_reducible refine Fr.set ?_ _ _ (by first | (intros; omega) | (simp; done) | (simp; omega))) | (with_reducible refine Fr.via ?_ (by assumption)) | (with_reducible refine Fr.comp ?_ (by assumption)))))) (fun q hq e => by have := (hown.out _ hq).2; omega), H.out.2.1, H.out.2.2, ?_⟩
        exact HW.out.of_nil.trans (S' := fun b => b = w.heap.size + 1) (by (repeat (first | (with_reducible exact Fr.refl _ _) | (with_reducible assumption) | (with_reducible exact Fr.of_nil (by assumption)) | (with_reducible refine Fr.drew ?_) | (with_reducible refine Fr.drewN ?_ _) | (with_reducible refine Fr.alloc ?_ _) | (with_reducible refine Fr.set ?_ _ _ (by first | (intros; omega) | (simp; done) | (simp; omega))) | (with_reducible refine Fr.via ?_ (by assumption)) | (with_reducible refine Fr.comp ?_ (by assumption))))) (fun q hq e => by omega)
end
end Go.Proofs.Ytjcnbfiholcjkaa
