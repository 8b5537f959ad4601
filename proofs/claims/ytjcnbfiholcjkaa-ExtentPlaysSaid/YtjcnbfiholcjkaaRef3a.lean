/-
  Contracts of the document's room (layer 3): New, List, Count. No conditions but sizes.
-/
import Derived.Test.YtjcnbfiholcjkaaL03
import Derived.Test.YtjcnbfiholcjkaaRefE
import Derived.Test.YtjcnbfiholcjkaaAppend
import Derived.Laws.OwnMore
namespace Go.Proofs.Ytjcnbfiholcjkaa
set_option linter.unusedSimpArgs false
set_option linter.unusedVariables false
open Go.RowKit Go.Shelf

theorem infoBool : (Try.prog.info? 4).map (fun i => (i.zero, i.size, i.bytes)) = some (some (.bool false), 1, 1) := by kernel_rfl
theorem src_one {w : World} {b : Nat} {x : Value} {t : TypeId} (h : Blk w b #[x] t) : Src w (some ⟨b, 0, none⟩) 1 1 [x] :=
  .inr ⟨_, rfl, rfl, fun j u hj => by
    rw [add_head, h.cell j]
    simpa using hj⟩
theorem src_pair {w : World} {b : Nat} {x y : Value} {t : TypeId} (h : Blk w b #[x, y] t) : Src w (some ⟨b, 0, none⟩) 1 2 [x, y] :=
  .inr ⟨_, rfl, rfl, fun j u hj => by
    rw [add_head, h.cell j]
    simpa using hj⟩
theorem owns_shape {w : World} {base n size : Nat} {t : TypeId} {u : Value} {xs : List Value} (h : w.ownsRow base t size u n xs) : ∃ a cap, u = .slice a n cap := by
  rcases h.2 with ⟨rfl, rfl⟩ | ⟨g, cap, cur, rfl, _⟩
  · exact ⟨_, _, rfl⟩
  · exact ⟨_, _, rfl⟩
/-- A row of signs. -/
def BoolsAt (base : Nat) (w : World) (v : Value) (bs : List Bool) : Prop := w.ownsRow base 4 1 v bs.length (bs.map Value.bool)
section
variable {base g cap n k : Nat} {w w' : World} {v : Value} {bs : List Bool}
theorem BoolsAt.shape (h : BoolsAt base w v bs) : ∃ a cap, v = .slice a bs.length cap := by
  rcases h.2 with ⟨rfl, hz⟩ | ⟨g, cap, cur, rfl, _⟩
  · exact ⟨none, 0, by rw [hz]⟩
  · exact ⟨_, _, rfl⟩
theorem BoolsAt.form (h : BoolsAt base w v bs) (hn : 0 < bs.length) : ∃ g cap, v = .slice (some ⟨g, 0, none⟩) bs.length cap := Joins.ownsRow_form h hn
theorem BoolsAt.cellAt (h : BoolsAt base w (.slice (some ⟨g, 0, none⟩) n cap) bs) (hn : n = bs.length) (i : Nat) (hi : i < bs.length) : w.cell? ⟨g, i, none⟩ = some (.bool (bs.getD i false)) := by
  subst hn
  rw [World.ownsRow.cellAt h i (by omega), List.getElem?_map, List.getElem?_eq_getElem hi, List.getD_eq_getElem?_getD, List.getElem?_eq_getElem hi]
  rfl
theorem BoolsAt.own (h : BoolsAt base w v bs) {k : Nat} (hk : v.ownBlock = some k) : base ≤ k ∧ k < w.heap.size := World.ownsRow.lt h k hk
theorem BoolsAt.kept {S : Nat → Prop} (h : BoolsAt base w v bs) (f : Fr S w w') (hn : ∀ k, v.ownBlock = some k → ¬ S k) : BoolsAt base w' v bs := by
  obtain ⟨h1, h2⟩ := h
  refine ⟨h1, ?_⟩
  rcases h2 with h2 | ⟨g, cap, cur, hv, hg, hh, r⟩
  · exact Or.inl h2
  · have hb : Blk w g cur 4 := hh
    exact Or.inr ⟨g, cap, cur, hv, hg, f.blk hb (hn g (by rw [hv]; rfl)), r⟩
theorem BoolsAt.store (b : Bool) (h : BoolsAt base w (.slice (some ⟨g, 0, none⟩) n cap) bs) (hn : n = bs.length) : BoolsAt base (w.setCell ⟨g, k, none⟩ (.bool b)) (.slice (some ⟨g, 0, none⟩) n cap) (bs.set k b) := by
  subst hn
  have h1 := (World.ownsRow.stored h k (.bool b)).1
  unfold BoolsAt
  rw [List.map_set, List.length_set]
  exact h1
theorem BoolsAt.free (h : BoolsAt base w (.slice (some ⟨g, 0, none⟩) n cap) bs) (i : Nat) : w.frozen? ⟨g, i, none⟩ = false := by
  rcases h.2 with ⟨h2, _⟩ | ⟨g', cap, cur, hv, _, hh, _⟩
  · simp at h2
  · injection hv with hv
    injection hv with hv
    injection hv with hv
    subst hv
    simp [World.frozen?, hh]
end
/-- The document's room: its record in block rb; its places. -/
structure RefAt (w : World) (rb f : Nat) (v : Value) (bs : List Bool) : Prop where
  blk : Blk w rb #[.int .i64 (f : Int), v] 53
  row : BoolsAt (rb + 1) w v bs
theorem RefAt.fr {S : Nat → Prop} {w w' : World} {rb f : Nat} {v : Value} {bs : List Bool} (h : RefAt w rb f v bs) (g : Fr S w w') (hn : ∀ k, TS rb v k → ¬ S k) : RefAt w' rb f v bs :=
  ⟨g.blk h.blk (hn rb (.inl rfl)), h.row.kept g (fun k hk => hn k (.inr hk))⟩
theorem RefAt.ge {w : World} {rb f : Nat} {v : Value} {bs : List Bool} (h : RefAt w rb f v bs) : ∀ k, TS rb v k → rb ≤ k := fun k q => by
  rcases q with q | q
  · omega
  · have := (h.row.own q).1; omega
set_option maxRecDepth 100000 in
theorem rnew_in (f p : Nat) (hf : f ≤ 65536) (hp : p ≤ 65536) (w : World) :
    Calls Try.prog 9 #[.int .i64 (f : Int), .int .i64 (p : Int)] w fun e w' => ∃ v, e = .returned (.tuple #[.pointer (some ⟨w.heap.size, 0, none⟩), .int .i64 0]) ∧ RefAt w' w.heap.size f v (List.replicate p true) ∧ Fr Nil w w' := by
  obtain ⟨j0, hj, hy0, hy1, hy2⟩ := info_parts infoBool
  have n1 : ¬ (f : Int) < 0 := by omega
  have n2 : ¬ (65536 : Int) < (f : Int) := by omega
  have n3 : ¬ (p : Int) < 0 := by omega
  have n4 : ¬ (65536 : Int) < (p : Int) := by omega
  have d1 := decide_eq_false n1
  have d2 := decide_eq_false n2
  have d3 := decide_eq_false n3
  have d4 := decide_eq_false n4
  go_enter Try.func9, Try.ntmps9
  go_wp2_with fail
  go_loopg [7] p (fun g iv wr => ∃ (k : Nat) (v' : Value), g = p - k ∧ k ≤ p ∧ iv = .int .i64 k ∧ RefAt wr w.heap.size f v' (List.replicate k true) ∧ Fr Nil w wr)
  case atStart => exact ⟨0, _, rfl, by omega, rfl, ⟨by (unfold Blk; simp (disch := first | omega | (simp; done) | (simp; omega)) only [hp_drew, hp_drewN, hp_alloc, hp_other, hp_same, hp_new, upd_cells, Option.map_some]), World.ownsRow_nil _ _ _ _⟩, by (repeat (first | (with_reducible exact Fr.refl _ _) | (with_reducible assumption) | (with_reducible exact Fr.of_nil (by assumption)) | (with_reducible refine Fr.drew ?_) | (with_reducible refine Fr.drewN ?_ _) | (with_reducible refine Fr.alloc ?_ _) | (with_reducible refine Fr.set ?_ _ _ (by first | (intros; omega) | (simp; done) | (simp; omega))) | (with_reducible refine Fr.via ?_ (by assumption)) | (with_reducible refine Fr.comp ?_ (by assumption))))⟩
  case round =>
    obtain ⟨k, v', rfl, hk, rfl, hR, hw⟩ := hrel
    by_cases hlt : k < p
    · have i1 : (k : Int) < (p : Int) := by omega
      have c1 := hR.blk.cell 1
      simp at c1
      have z1 := hR.blk.free 1
      have hrb := hR.blk.lt
      have HO : Hid (wr.ownsRow (w.heap.size + 1) 4 1 v' k ((List.replicate k true).map Value.bool)) := by
        have := hR.row
        unfold BoolsAt at this
        rw [List.length_replicate] at this
        exact this
      have hown : Hid (∀ q, v'.ownBlock = some q → w.heap.size + 1 ≤ q ∧ q < wr.heap.size) := fun q hq => hR.row.own hq
      have HB := Lib.hid (And.intro hR.blk hw)
      clear hR hw
      go_wp2_with (at_builtin; refine wpList_append_src rfl (.tmp 34) (.tmp 35) 51 rfl (w.heap.size + 1) 4 j0 (.bool false) 1 1 Try.underlying51 hj hy0 hy1 hy2 rfl (by decide) v' k _ rfl (HO.out.alloc _) (some ⟨wr.heap.size, 0, none⟩) 1 1 [.bool true] rfl (src_one (t := 4) (by (unfold Blk; simp (disch := first | omega | (simp; done) | (simp; omega)) only [hp_drew, hp_drewN, hp_alloc, hp_other, hp_same, hp_new, upd_cells, Option.map_some]))) (by simp [Value.oneCell']) (by unfold maxLen; omega) (by omega) (by first | omega | (simp <;> omega)) ?_; intro v4 w4 hown4 hgrow4 hat4; have f4 : Fr (fun b => v'.ownBlock = some b) wr w4 := Fr.grown (by (repeat (first | (with_reducible exact Fr.refl _ _) | (with_reducible assumption) | (with_reducible exact Fr.of_nil (by assumption)) | (with_reducible refine Fr.drew ?_) | (with_reducible refine Fr.drewN ?_ _) | (with_reducible refine Fr.alloc ?_ _) | (with_reducible refine Fr.set ?_ _ _ (by first | (intros; omega) | (simp; done) | (simp; omega))) | (with_reducible refine Fr.via ?_ (by assumption)) | (with_reducible refine Fr.comp ?_ (by assumption))))) hgrow4 (fun k q hk => q); have t4 := f4.blk HB.out.1 (fun q => by have := hown.out _ q; omega); have y1 := t4.free 1; have y2 := t4.cell 1; simp at y2; have hst4 := t4.lt; obtain ⟨a4, cap4, rfl⟩ := owns_shape hown4; have HF := Lib.hid (And.intro t4 (And.intro hown4 f4)); clear hown4 hgrow4 hat4 t4 f4)
      go_roundg (p - (k + 1))
      case rel =>
        have hs : BoolsAt (w.heap.size + 1) w4 (.slice a4 (k + 1) cap4) (List.replicate (k + 1) true) := by
          have := HF.out.2.1
          unfold BoolsAt
          rw [List.length_replicate, List.replicate_succ', List.map_append]
          exact this
        refine ⟨k + 1, _, rfl, by omega, by go_num, ⟨HF.out.1.put (by simp), hs.kept (S := fun b => b = w.heap.size) (by (repeat (first | (with_reducible exact Fr.refl _ _) | (with_reducible assumption) | (with_reducible exact Fr.of_nil (by assumption)) | (with_reducible refine Fr.drew ?_) | (with_reducible refine Fr.drewN ?_ _) | (with_reducible refine Fr.alloc ?_ _) | (with_reducible refine Fr.set ?_ _ _ (by first | (intros; omega) | (simp; done) | (simp; omega))) | (with_reducible refine Fr.via ?_ (by assumption)) | (with_reducible refine Fr.comp ?_ (by assumption))))) (fun q hq e => by have := (hs.own hq).1; omega)⟩, ?_⟩
        exact ((HB.out.2.trans HF.out.2.2 (fun q hq e => by have := hown.out _ e; omega)).set _ _ (fun q => absurd q (by simp)))
      case measure => omega
    · obtain rfl : k = p := by omega
      have i1 : ¬ ((k : Int) < (k : Int)) := by omega
      go_wp2
      go_ret2
      exact ⟨rfl, ⟨v', hR⟩, hw⟩
theorem rnew_out (f p : Int) (h : f < 0 ∨ 65536 < f ∨ p < 0 ∨ 65536 < p) (w : World) :
    Calls Try.prog 9 #[.int .i64 f, .int .i64 p] w fun e w' => e = .returned (.tuple #[.pointer none, .int .i64 1]) ∧ Fr Nil w w' := by
  by_cases c1 : f < 0
  · have d1 := decide_eq_true c1
    clear h
    go_enter Try.func9, Try.ntmps9
    go_wp2
    go_ret2
    exact ⟨rfl, by (repeat (first | (with_reducible exact Fr.refl _ _) | (with_reducible assumption) | (with_reducible exact Fr.of_nil (by assumption)) | (with_reducible refine Fr.drew ?_) | (with_reducible refine Fr.drewN ?_ _) | (with_reducible refine Fr.alloc ?_ _) | (with_reducible refine Fr.set ?_ _ _ (by first | (intros; omega) | (simp; done) | (simp; omega))) | (with_reducible refine Fr.via ?_ (by assumption)) | (with_reducible refine Fr.comp ?_ (by assumption))))⟩
  · have d1 := decide_eq_false c1
    by_cases c2 : 65536 < f
    · have d2 := decide_eq_true c2
      clear h
      go_enter Try.func9, Try.ntmps9
      go_wp2
      go_ret2
      exact ⟨rfl, by (repeat (first | (with_reducible exact Fr.refl _ _) | (with_reducible assumption) | (with_reducible exact Fr.of_nil (by assumption)) | (with_reducible refine Fr.drew ?_) | (with_reducible refine Fr.drewN ?_ _) | (with_reducible refine Fr.alloc ?_ _) | (with_reducible refine Fr.set ?_ _ _ (by first | (intros; omega) | (simp; done) | (simp; omega))) | (with_reducible refine Fr.via ?_ (by assumption)) | (with_reducible refine Fr.comp ?_ (by assumption))))⟩
    · have d2 := decide_eq_false c2
      by_cases c3 : p < 0
      · have d3 := decide_eq_true c3
        clear h
        go_enter Try.func9, Try.ntmps9
        go_wp2
        go_ret2
        exact ⟨rfl, by (repeat (first | (with_reducible exact Fr.refl _ _) | (with_reducible assumption) | (with_reducible exact Fr.of_nil (by assumption)) | (with_reducible refine Fr.drew ?_) | (with_reducible refine Fr.drewN ?_ _) | (with_reducible refine Fr.alloc ?_ _) | (with_reducible refine Fr.set ?_ _ _ (by first | (intros; omega) | (simp; done) | (simp; omega))) | (with_reducible refine Fr.via ?_ (by assumption)) | (with_reducible refine Fr.comp ?_ (by assumption))))⟩
      · have d3 := decide_eq_false c3
        have c4 : 65536 < p := by omega
        have d4 := decide_eq_true c4
        clear h
        go_enter Try.func9, Try.ntmps9
        go_wp2
        go_ret2
        exact ⟨rfl, by (repeat (first | (with_reducible exact Fr.refl _ _) | (with_reducible assumption) | (with_reducible exact Fr.of_nil (by assumption)) | (with_reducible refine Fr.drew ?_) | (with_reducible refine Fr.drewN ?_ _) | (with_reducible refine Fr.alloc ?_ _) | (with_reducible refine Fr.set ?_ _ _ (by first | (intros; omega) | (simp; done) | (simp; omega))) | (with_reducible refine Fr.via ?_ (by assumption)) | (with_reducible refine Fr.comp ?_ (by assumption))))⟩
theorem rcount_any (rb f p : Nat) (v : Value) (bs : List Bool) (L : List (Nat × Nat)) (w : World) (h : RefAt w rb f v bs) (hl : bs.length = p) (hL : RefIs f bs p L) (hp : p ≤ 65536) :
    Calls Try.prog 16 #[.pointer (some ⟨rb, 0, none⟩)] w fun e w' => e = .returned (.int .i64 (sumL L : Nat)) ∧ Fr Nil w w' := by
  rw [hL.cnt]
  clear hL
  obtain ⟨a0, c0, rfl⟩ := h.row.shape
  have H := Lib.hid h
  have hrb := h.blk.lt
  have C1 := h.blk.cell 1
  simp at C1
  rw [hl] at C1
  have HL := Lib.hid hl
  clear h hl
  go_enter Try.func16, Try.ntmps16
  go_wp2_with fail
  go_loopg [3, 4] p (fun g sv iv wr => ∃ k : Nat, g = p - k ∧ k ≤ p ∧ iv = .int .i64 k ∧ sv = .int .i64 (cntB bs k : Nat) ∧ Fr Nil w wr)
  case atStart => exact ⟨0, rfl, by omega, rfl, rfl, by (repeat (first | (with_reducible exact Fr.refl _ _) | (with_reducible assumption) | (with_reducible exact Fr.of_nil (by assumption)) | (with_reducible refine Fr.drew ?_) | (with_reducible refine Fr.drewN ?_ _) | (with_reducible refine Fr.alloc ?_ _) | (with_reducible refine Fr.set ?_ _ _ (by first | (intros; omega) | (simp; done) | (simp; omega))) | (with_reducible refine Fr.via ?_ (by assumption)) | (with_reducible refine Fr.comp ?_ (by assumption))))⟩
  case round =>
    obtain ⟨k, rfl, hk, rfl, rfl, hw⟩ := hrel
    have c1 := hw.cell C1 (fun q => q)
    have lt1 := hw.lt hrb
    by_cases hlt : k < p
    · have hkl : k < bs.length := by rw [HL.out]; exact hlt
      obtain ⟨g1, d1, e1⟩ := H.out.row.form (by omega)
      injection e1 with e1 _ e1'
      subst e1 e1'
      have p0 := ((H.out.row.kept hw (fun _ _ q => q)).cellAt rfl k hkl)
      have i0 : (0 : Int) ≤ (k : Int) := by omega
      have i1 : (k : Int) < (p : Int) := by omega
      have lt2 : g1 < wr.heap.size := World.block_lt_of_cell? wr _ p0
      have hc := cntB_le bs k
      have hst : cntB bs (k + 1) = cntB bs k + (if bs.getD k false then 1 else 0) := rfl
      cases hb : bs.getD k false with
      | true =>
        rw [hb] at p0 hst
        simp only [if_true] at hst
        have HS := Lib.hid hst
        clear hst hb
        go_wp2
        go_roundg (p - (k + 1))
        case rel => exact ⟨k + 1, rfl, by omega, by go_num, by rw [HS.out]; go_num, by (repeat (first | (with_reducible exact Fr.refl _ _) | (with_reducible assumption) | (with_reducible exact Fr.of_nil (by assumption)) | (with_reducible refine Fr.drew ?_) | (with_reducible refine Fr.drewN ?_ _) | (with_reducible refine Fr.alloc ?_ _) | (with_reducible refine Fr.set ?_ _ _ (by first | (intros; omega) | (simp; done) | (simp; omega))) | (with_reducible refine Fr.via ?_ (by assumption)) | (with_reducible refine Fr.comp ?_ (by assumption))))⟩
        case measure => omega
      | false =>
        rw [hb] at p0 hst
        have hst' : cntB bs (k + 1) = cntB bs k := by simpa using hst
        have HS := Lib.hid hst'
        clear hst hst' hb
        go_wp2
        go_roundg (p - (k + 1))
        case rel => exact ⟨k + 1, rfl, by omega, by go_num, by rw [HS.out], by (repeat (first | (with_reducible exact Fr.refl _ _) | (with_reducible assumption) | (with_reducible exact Fr.of_nil (by assumption)) | (with_reducible refine Fr.drew ?_) | (with_reducible refine Fr.drewN ?_ _) | (with_reducible refine Fr.alloc ?_ _) | (with_reducible refine Fr.set ?_ _ _ (by first | (intros; omega) | (simp; done) | (simp; omega))) | (with_reducible refine Fr.via ?_ (by assumption)) | (with_reducible refine Fr.comp ?_ (by assumption))))⟩
        case measure => omega
    · obtain rfl : k = p := by omega
      have i1 : ¬ ((k : Int) < (k : Int)) := by omega
      go_wp2
      go_ret
      exact ⟨rfl, by (repeat (first | (with_reducible exact Fr.refl _ _) | (with_reducible assumption) | (with_reducible exact Fr.of_nil (by assumption)) | (with_reducible refine Fr.drew ?_) | (with_reducible refine Fr.drewN ?_ _) | (with_reducible refine Fr.alloc ?_ _) | (with_reducible refine Fr.set ?_ _ _ (by first | (intros; omega) | (simp; done) | (simp; omega))) | (with_reducible refine Fr.via ?_ (by assumption)) | (with_reducible refine Fr.comp ?_ (by assumption))))⟩
set_option maxRecDepth 100000 in
set_option maxHeartbeats 4000000 in
theorem rlist_any (rb f p : Nat) (v : Value) (bs : List Bool) (L : List (Nat × Nat)) (w : World) (h : RefAt w rb f v bs) (hl : bs.length = p) (hL : RefIs f bs p L) (hp : p ≤ 65536) (hf : f ≤ 65536) :
    Calls Try.prog 14 #[.pointer (some ⟨rb, 0, none⟩)] w fun e w' => ∃ v', e = .returned v' ∧ PairsAt w.heap.size w' v' L ∧ Fr Nil w w' := by
  obtain ⟨i0, hi, hz0, hz1, hz2⟩ := info_parts infoPair
  obtain ⟨a0, c0, rfl⟩ := h.row.shape
  have H := Lib.hid h
  have hrb := h.blk.lt
  have C0 := h.blk.cell 0
  have C1 := h.blk.cell 1
  simp at C0 C1
  rw [hl] at C1
  have HL := Lib.hid hl
  have HIS := Lib.hid hL
  clear h hl hL
  go_enter Try.func14, Try.ntmps14
  go_wp2_with fail
  go_loopg [3, 4] p (fun g ov iv wr => ∃ (k : Nat) (M : List (Nat × Nat)), g = p - k ∧ k ≤ p ∧ iv = .int .i64 k ∧ PairsAt w.heap.size wr ov M ∧ Hid (RefIs f bs k M) ∧ Fr Nil w wr)
  case atStart => exact ⟨0, [], rfl, by omega, rfl, World.ownsRow_nil _ _ _ _, Lib.hid (RefIs.zero f bs), by (repeat (first | (with_reducible exact Fr.refl _ _) | (with_reducible assumption) | (with_reducible exact Fr.of_nil (by assumption)) | (with_reducible refine Fr.drew ?_) | (with_reducible refine Fr.drewN ?_ _) | (with_reducible refine Fr.alloc ?_ _) | (with_reducible refine Fr.set ?_ _ _ (by first | (intros; omega) | (simp; done) | (simp; omega))) | (with_reducible refine Fr.via ?_ (by assumption)) | (with_reducible refine Fr.comp ?_ (by assumption))))⟩
  case round =>
    obtain ⟨k, M, rfl, hk, rfl, hP, HI, hw⟩ := hrel
    have c0' := hw.cell C0 (fun q => q)
    have c1 := hw.cell C1 (fun q => q)
    have lt1 := hw.lt hrb
    have hml : M.length ≤ 131072 := by have := can_len' HI.out.1; omega
    have hsz := hw.size
    by_cases hlt : k < p
    · have hkl : k < bs.length := by rw [HL.out]; exact hlt
      obtain ⟨g1, d1, e1⟩ := H.out.row.form (by omega)
      injection e1 with e1 _ e1'
      subst e1 e1'
      have hrow := (H.out.row.kept hw (fun _ _ q => q))
      have p0 := hrow.cellAt rfl k hkl
      have i0' : (0 : Int) ≤ (k : Int) := by omega
      have i1 : (k : Int) < (p : Int) := by omega
      have lt2 : g1 < wr.heap.size := World.block_lt_of_cell? wr _ p0
      have wa : IntKind.i64.wrap ((f : Int) + (k : Int)) = (f : Int) + (k : Int) := by rw [IntKind.wrap_i64]; omega
      cases hb : bs.getD k false with
      | false =>
        rw [hb] at p0
        have HN := Lib.hid (HI.out.skip hb)
        have HP := Lib.hid hP
        clear hP hb hrow
        go_wp2
        go_roundg (p - (k + 1))
        case rel => exact ⟨k + 1, M, rfl, by omega, by go_num, HP.out, HN, by (repeat (first | (with_reducible exact Fr.refl _ _) | (with_reducible assumption) | (with_reducible exact Fr.of_nil (by assumption)) | (with_reducible refine Fr.drew ?_) | (with_reducible refine Fr.drewN ?_ _) | (with_reducible refine Fr.alloc ?_ _) | (with_reducible refine Fr.set ?_ _ _ (by first | (intros; omega) | (simp; done) | (simp; omega))) | (with_reducible refine Fr.via ?_ (by assumption)) | (with_reducible refine Fr.comp ?_ (by assumption))))⟩
        case measure => omega
      | true =>
        rw [hb] at p0
        rcases Nat.eq_zero_or_pos k with rfl | hkp
        · have HN := Lib.hid (HI.out.new hb (.inl rfl))
          obtain ⟨m, hm⟩ : ∃ m, M.length = m := ⟨_, rfl⟩
          have HP : Hid (wr.ownsRow w.heap.size 45 2 u3 m (flatP M)) := by rw [← hm]; exact hP
          have HM := Lib.hid hm
          rw [hm] at hml
          clear hP hb hrow hm
          simp at p0 wa
          go_wp2_with (at_builtin; refine wpList_append_src rfl (.tmp 44) (.tmp 52) 38 rfl w.heap.size 45 i0 (.agg #[.int .i64 0, .int .i64 0]) 2 16 Try.underlying38 hi hz0 hz1 hz2 rfl (by decide) u3 m _ rfl (HP.out.alloc _) (some ⟨wr.heap.size, 0, none⟩) 1 1 [.int .i64 (f : Int), .int .i64 1] rfl (src_pair (t := 45) (by (unfold Blk; simp (disch := first | omega | (simp; done) | (simp; omega)) only [hp_drew, hp_drewN, hp_alloc, hp_other, hp_same, hp_new, upd_cells, Option.map_some]))) (by simp [Value.oneCell']) (by unfold maxLen; omega) (by omega) (by first | omega | (simp <;> omega)) ?_; intro v4 w4 hown4 hgrow4 hat4; have f4 : Fr (fun b => u3.ownBlock = some b) wr w4 := Fr.grown (by (repeat (first | (with_reducible exact Fr.refl _ _) | (with_reducible assumption) | (with_reducible exact Fr.of_nil (by assumption)) | (with_reducible refine Fr.drew ?_) | (with_reducible refine Fr.drewN ?_ _) | (with_reducible refine Fr.alloc ?_ _) | (with_reducible refine Fr.set ?_ _ _ (by first | (intros; omega) | (simp; done) | (simp; omega))) | (with_reducible refine Fr.via ?_ (by assumption)) | (with_reducible refine Fr.comp ?_ (by assumption))))) hgrow4 (fun k q hk => q); have HF := Lib.hid (And.intro hown4 f4); clear hown4 hgrow4 hat4 f4)
          go_roundg (p - (0 + 1))
          case rel =>
            refine ⟨0 + 1, M ++ [(f, 1)], rfl, by omega, by go_num, ?_, HN, hw.trans HF.out.2 (fun q hq e => by have := HP.out.lt _ e; omega)⟩
            unfold PairsAt
            rw [List.length_append, HM.out, flatP_append]
            exact HF.out.1
          case measure => omega
        · obtain ⟨j, rfl⟩ : ∃ j, k = j + 1 := ⟨k - 1, by omega⟩
          have p1 := hrow.cellAt rfl j (by omega)
          have j0 : (0 : Int) ≤ (j : Int) + 1 := by omega
          have j1 : (j : Int) + 1 < (p : Int) := by omega
          have j2 : (j : Int) < (p : Int) := by omega
          have j3 : (0 : Int) < (j : Int) + 1 := by omega
          have htn : ((j : Int) + 1).toNat = j + 1 := by omega
          cases hb' : bs.getD j false with
          | false =>
            rw [hb'] at p1
            have HN := Lib.hid (HI.out.new hb (.inr (by rw [Nat.add_sub_cancel]; exact hb')))
            obtain ⟨m, hm⟩ : ∃ m, M.length = m := ⟨_, rfl⟩
            have HP : Hid (wr.ownsRow w.heap.size 45 2 u3 m (flatP M)) := by rw [← hm]; exact hP
            have HM := Lib.hid hm
            rw [hm] at hml
            rw [show ((j + 1 : Nat) : Int) = (j : Int) + 1 by omega] at wa
            clear hP hb hrow hm hb'
            go_wp2_with (at_builtin; refine wpList_append_src rfl (.tmp 44) (.tmp 52) 38 rfl w.heap.size 45 i0 (.agg #[.int .i64 0, .int .i64 0]) 2 16 Try.underlying38 hi hz0 hz1 hz2 rfl (by decide) u3 m _ rfl (HP.out.alloc _) (some ⟨wr.heap.size, 0, none⟩) 1 1 [.int .i64 ((f : Int) + ((j : Int) + 1)), .int .i64 1] rfl (src_pair (t := 45) (by (unfold Blk; simp (disch := first | omega | (simp; done) | (simp; omega)) only [hp_drew, hp_drewN, hp_alloc, hp_other, hp_same, hp_new, upd_cells, Option.map_some]))) (by simp [Value.oneCell']) (by unfold maxLen; omega) (by omega) (by first | omega | (simp <;> omega)) ?_; intro v4 w4 hown4 hgrow4 hat4; have f4 : Fr (fun b => u3.ownBlock = some b) wr w4 := Fr.grown (by (repeat (first | (with_reducible exact Fr.refl _ _) | (with_reducible assumption) | (with_reducible exact Fr.of_nil (by assumption)) | (with_reducible refine Fr.drew ?_) | (with_reducible refine Fr.drewN ?_ _) | (with_reducible refine Fr.alloc ?_ _) | (with_reducible refine Fr.set ?_ _ _ (by first | (intros; omega) | (simp; done) | (simp; omega))) | (with_reducible refine Fr.via ?_ (by assumption)) | (with_reducible refine Fr.comp ?_ (by assumption))))) hgrow4 (fun k q hk => q); have HF := Lib.hid (And.intro hown4 f4); clear hown4 hgrow4 hat4 f4)
            go_roundg (p - (j + 1 + 1))
            case rel =>
              refine ⟨j + 1 + 1, M ++ [(f + (j + 1), 1)], rfl, by omega, by go_num, ?_, HN, hw.trans HF.out.2 (fun q hq e => by have := HP.out.lt _ e; omega)⟩
              unfold PairsAt
              rw [List.length_append, HM.out, flatP_append]
              have := HF.out.1
              rw [show (f : Int) + ((j : Int) + 1) = ((f + (j + 1) : Nat) : Int) by omega] at this
              exact this
            case measure => omega
          | true =>
            rw [hb'] at p1
            obtain ⟨A, aa, m, rfl, hs, HN0⟩ := HI.out.grow hb (by omega) (by rw [Nat.add_sub_cancel]; exact hb')
            have HN := Lib.hid HN0
            obtain ⟨g2, c2, rfl⟩ := hP.form (by simp)
            have hcl := (pair_cell hP rfl A.length (by simp)).2
            have hst := (PairsAt.store2 (m + 1) hP rfl (k := A.length) (by simp))
            simp at hcl
            simp at hst
            have hfz : wr.frozen? ⟨g2, A.length * 2 + 1, none⟩ = false := by
              rcases hP.2 with ⟨h2, _⟩ | ⟨g', cap, cur, hv, _, hh, _⟩
              · simp at h2
              · injection hv with hv
                injection hv with hv
                injection hv with hv
                subst hv
                simp [World.frozen?, hh]
            have hlt2 := hP.own (k := g2) rfl
            obtain ⟨N, hN⟩ : ∃ N, A.length = N := ⟨_, rfl⟩
            rw [hN] at hcl hst hfz
            have hml' : N + 1 ≤ 131072 := by rw [List.length_append, hN] at hml; simpa using hml
            have hel : (A ++ [(aa, m)]).length = N + 1 := by simp [hN]
            rw [hel]
            have wm : IntKind.i64.wrap ((m : Int) + 1) = (m : Int) + 1 := by rw [IntKind.wrap_i64]; omega
            have k0 : (0 : Int) ≤ (N : Int) := by omega
            have k1 : (N : Int) < (N : Int) + 1 := by omega
            have HST := Lib.hid (And.intro hst (And.intro hN hlt2))
            clear hst hP hb hrow hb' hN HN0 hs hml hel HI
            go_wp2
            go_region
            all_goals
              go_wp2
              go_roundg (p - (j + 1 + 1))
              case rel => exact ⟨j + 1 + 1, A ++ [(aa, m + 1)], rfl, by omega, by go_num, by first | exact HST.out.1 | exact owns_fr HST.out.1 (by (repeat (first | (with_reducible exact Fr.refl _ _) | (with_reducible assumption) | (with_reducible exact Fr.of_nil (by assumption)) | (with_reducible refine Fr.drew ?_) | (with_reducible refine Fr.drewN ?_ _) | (with_reducible refine Fr.alloc ?_ _) | (with_reducible refine Fr.set ?_ _ _ (by first | (intros; omega) | (simp; done) | (simp; omega))) | (with_reducible refine Fr.via ?_ (by assumption)) | (with_reducible refine Fr.comp ?_ (by assumption))))), HN, by (repeat (first | (with_reducible exact Fr.refl _ _) | (with_reducible assumption) | (with_reducible exact Fr.of_nil (by assumption)) | (with_reducible refine Fr.drew ?_) | (with_reducible refine Fr.drewN ?_ _) | (with_reducible refine Fr.alloc ?_ _) | (with_reducible refine Fr.set ?_ _ _ (by first | (intros; omega) | (simp; done) | (simp; omega))) | (with_reducible refine Fr.via ?_ (by assumption)) | (with_reducible refine Fr.comp ?_ (by assumption))))⟩
              case measure => omega
    · obtain rfl : k = p := by omega
      have i1 : ¬ ((k : Int) < (k : Int)) := by omega
      have HE := Lib.hid (HI.out.same HIS.out)
      go_wp2
      go_ret
      exact ⟨_, rfl, by rw [← HE.out]; exact hP, by (repeat (first | (with_reducible exact Fr.refl _ _) | (with_reducible assumption) | (with_reducible exact Fr.of_nil (by assumption)) | (with_reducible refine Fr.drew ?_) | (with_reducible refine Fr.drewN ?_ _) | (with_reducible refine Fr.alloc ?_ _) | (with_reducible refine Fr.set ?_ _ _ (by first | (intros; omega) | (simp; done) | (simp; omega))) | (with_reducible refine Fr.via ?_ (by assumption)) | (with_reducible refine Fr.comp ?_ (by assumption))))⟩
end Go.Proofs.Ytjcnbfiholcjkaa
