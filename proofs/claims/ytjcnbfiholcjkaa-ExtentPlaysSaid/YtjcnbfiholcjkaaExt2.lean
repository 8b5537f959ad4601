/-
  Contracts of package extent: New, within, List, Free, Take. No conditions but sizes that the package itself asks for.
-/
import Derived.Test.YtjcnbfiholcjkaaExt1
import Derived.Test.YtjcnbfiholcjkaaExtP
import Derived.Laws.OwnMore
import Derived.OneCell
namespace Go.Proofs.Ytjcnbfiholcjkaa
set_option linter.unusedSimpArgs false
set_option linter.unusedVariables false
open Go.RowKit Go.Shelf

theorem flatP_set (L : List (Nat × Nat)) (k : Nat) (y : Nat × Nat) : ((flatP L).set (k * 2) (.int .i64 (y.1 : Int))).set (k * 2 + 1) (.int .i64 (y.2 : Int)) = flatP (L.set k y) := by
  induction L generalizing k with
  | nil => simp [flatP]
  | cons x l ih =>
    cases k with
    | zero => simp [flatP_cons, pairCells]
    | succ k =>
      rw [List.set_cons_succ, flatP_cons, flatP_cons, ← ih k, show (k + 1) * 2 = k * 2 + 1 + 1 by omega]
      simp [pairCells]
theorem PairsAt.store {base g cap n k : Nat} {w : World} {L : List (Nat × Nat)} (y : Nat × Nat) (h : PairsAt base w (.slice (some ⟨g, 0, none⟩) n cap) L) (hn : n = L.length) :
    PairsAt base ((w.setCell ⟨g, k * 2, none⟩ (.int .i64 (y.1 : Int))).setCell ⟨g, k * 2 + 1, none⟩ (.int .i64 (y.2 : Int))) (.slice (some ⟨g, 0, none⟩) n cap) (L.set k y) := by
  subst hn
  have h1 := (World.ownsRow.stored h (k * 2) (.int .i64 (y.1 : Int))).1
  have h2 := (World.ownsRow.stored h1 (k * 2 + 1) (.int .i64 (y.2 : Int))).1
  rw [flatP_set] at h2
  unfold PairsAt
  rw [List.length_set]
  exact h2
theorem PairsAt.store2 {base g cap n k : Nat} {w : World} {L : List (Nat × Nat)} (m : Nat) (h : PairsAt base w (.slice (some ⟨g, 0, none⟩) n cap) L) (hn : n = L.length) (hk : k < L.length) :
    PairsAt base (w.setCell ⟨g, k * 2 + 1, none⟩ (.int .i64 (m : Int))) (.slice (some ⟨g, 0, none⟩) n cap) (L.set k (L[k].1, m)) := by
  subst hn
  have h2 := (World.ownsRow.stored h (k * 2 + 1) (.int .i64 (m : Int))).1
  have e : (flatP L).set (k * 2 + 1) (.int .i64 (m : Int)) = flatP (L.set k (L[k].1, m)) := by
    rw [← flatP_set]
    congr 1
    refine (List.set_getElem_self (i := k * 2) (by rw [flatP_len]; omega)).symm.trans ?_
    congr 1
    have := (flatP_get L k hk).1
    exact Option.some.inj ((List.getElem?_eq_getElem _).symm.trans this)
  rw [e] at h2
  unfold PairsAt
  rw [List.length_set]
  exact h2
theorem PairsAt.other {base : Nat} {w : World} {v : Value} {L : List (Nat × Nat)} (h : PairsAt base w v L) {a : Addr} (ha : v.ownBlock ≠ some a.block) (u : Value) : PairsAt base (w.setCell a u) v L := ownsRow_setCell_other h ha u
theorem PairsAt.own {base : Nat} {w : World} {v : Value} {L : List (Nat × Nat)} (h : PairsAt base w v L) {k : Nat} (hk : v.ownBlock = some k) : base ≤ k ∧ k < w.heap.size := World.ownsRow.lt h k hk
/-- A room: its record in block br; its runs. -/
structure RoomAt (w : World) (br f p : Nat) (v : Value) (L : List (Nat × Nat)) : Prop where
  blk : Blk w br #[.int .i64 (f : Int), .int .i64 (p : Int), v] 50
  pairs : PairsAt (br + 1) w v L
  can : CanL f (f + p) L
  hf : f ≤ 65536
  hp : p ≤ 65536
theorem RoomAt.len {w : World} {br f p : Nat} {v : Value} {L : List (Nat × Nat)} (h : RoomAt w br f p v L) : L.length ≤ 131072 := by
  have := can_len' h.can
  have := h.hf
  have := h.hp
  omega
/-- The blocks that a call may turn. -/
def TS (br : Nat) (v : Value) : Nat → Prop := fun b => b = br ∨ v.ownBlock = some b
theorem kept_fr {S : Nat → Prop} {w w' : World} {base : Nat} {v : Value} {L : List (Nat × Nat)} (h : PairsAt base w v L) (f : Fr S w w') (hn : ∀ k, v.ownBlock = some k → ¬ S k) : PairsAt base w' v L := by
  obtain ⟨h1, h2⟩ := h
  refine ⟨h1, ?_⟩
  rcases h2 with h2 | ⟨g, cap, cur, hv, hg, hh, r⟩
  · exact Or.inl h2
  · have hb : Blk w g cur 45 := hh
    exact Or.inr ⟨g, cap, cur, hv, hg, f.blk hb (hn g (by rw [hv]; rfl)), r⟩
theorem RoomAt.fr {S : Nat → Prop} {w w' : World} {br f p : Nat} {v : Value} {L : List (Nat × Nat)} (h : RoomAt w br f p v L) (g : Fr S w w') (hn : ∀ k, TS br v k → ¬ S k) : RoomAt w' br f p v L :=
  ⟨g.blk h.blk (hn br (.inl rfl)), kept_fr h.pairs g (fun k hk => hn k (.inr hk)), h.can, h.hf, h.hp⟩

section
variable (br f p : Nat) (v : Value) (L : List (Nat × Nat)) (w : World)
theorem list_any (h : RoomAt w br f p v L) : Calls Try.prog 13 #[.pointer (some ⟨br, 0, none⟩)] w fun e w' => ∃ v', e = .returned v' ∧ PairsAt w.heap.size w' v' L ∧ Fr Nil w w' := by
  have c2 := h.blk.cell 2
  simp at c2
  have hl := h.len
  obtain ⟨a0, c0, rfl⟩ := h.pairs.shape
  have H := Lib.hid h
  have hbr := h.blk.lt
  clear h
  go_enter Try.func13, Try.ntmps13
  go_wp2_with fail
  refine (clone_any (br + 1) _ L _ (H.out.pairs.fr (by (repeat (first | (with_reducible exact Fr.refl _ _) | (with_reducible assumption) | (with_reducible exact Fr.of_nil (by assumption)) | (with_reducible refine Fr.drew ?_) | (with_reducible refine Fr.drewN ?_ _) | (with_reducible refine Fr.alloc ?_ _) | (with_reducible refine Fr.set ?_ _ _ (by first | (intros; omega) | (simp; done) | (simp; omega))) | (with_reducible refine Fr.via ?_ (by assumption)) | (with_reducible refine Fr.comp ?_ (by assumption)))))) (by omega)).mono ?_
  rintro e w1 ⟨v', rfl, h1, f1⟩
  go_wp2
  go_ret
  exact ⟨_, rfl, h1, by (repeat (first | (with_reducible exact Fr.refl _ _) | (with_reducible assumption) | (with_reducible exact Fr.of_nil (by assumption)) | (with_reducible refine Fr.drew ?_) | (with_reducible refine Fr.drewN ?_ _) | (with_reducible refine Fr.alloc ?_ _) | (with_reducible refine Fr.set ?_ _ _ (by first | (intros; omega) | (simp; done) | (simp; omega))) | (with_reducible refine Fr.via ?_ (by assumption)) | (with_reducible refine Fr.comp ?_ (by assumption))))⟩
/-- Are places all of the room's? -/
def withinB (f p : Nat) (a n : Int) : Bool := decide (1 ≤ n) && decide (n ≤ (p : Int)) && decide ((f : Int) ≤ a) && decide (a - f ≤ (p : Int) - n)
theorem within_any (h : RoomAt w br f p v L) (a n : Int) (ha : IntKind.i64.wrap a = a) : Calls Try.prog 23 #[.pointer (some ⟨br, 0, none⟩), .int .i64 a, .int .i64 n] w fun e w' => e = .returned (.bool (withinB f p a n)) ∧ Fr Nil w w' := by
  have c0 := h.blk.cell 0
  have c1 := h.blk.cell 1
  simp at c0 c1
  have hbr := h.blk.lt
  have hf := h.hf
  have hp := h.hp
  clear h
  unfold withinB
  rw [IntKind.wrap_i64] at ha
  by_cases k1 : 1 ≤ n
  · by_cases k2 : n ≤ (p : Int)
    · by_cases k3 : (f : Int) ≤ a
      · have w1 : IntKind.i64.wrap (a - (f : Int)) = a - f := by rw [IntKind.wrap_i64]; omega
        have w2 : IntKind.i64.wrap ((p : Int) - n) = p - n := by rw [IntKind.wrap_i64]; omega
        rw [show (decide (1 ≤ n) && decide (n ≤ (p : Int)) && decide ((f : Int) ≤ a) && decide (a - f ≤ (p : Int) - n)) = decide (a - f ≤ (p : Int) - n) by simp [k1, k2, k3]]
        clear ha
        go_enter Try.func23, Try.ntmps23
        go_wp2_with fail
        go_quiet (fail)
        go_wp2
        go_ret
        exact ⟨rfl, by (repeat (first | (with_reducible exact Fr.refl _ _) | (with_reducible assumption) | (with_reducible exact Fr.of_nil (by assumption)) | (with_reducible refine Fr.drew ?_) | (with_reducible refine Fr.drewN ?_ _) | (with_reducible refine Fr.alloc ?_ _) | (with_reducible refine Fr.set ?_ _ _ (by first | (intros; omega) | (simp; done) | (simp; omega))) | (with_reducible refine Fr.via ?_ (by assumption)) | (with_reducible refine Fr.comp ?_ (by assumption))))⟩
      · rw [show (decide (1 ≤ n) && decide (n ≤ (p : Int)) && decide ((f : Int) ≤ a) && decide (a - f ≤ (p : Int) - n)) = false by simp [k3]]
        have dd := decide_eq_false k3
        clear ha
        go_enter Try.func23, Try.ntmps23
        go_wp2_with fail
        go_quiet (fail)
        go_wp2
        go_ret
        exact ⟨rfl, by (repeat (first | (with_reducible exact Fr.refl _ _) | (with_reducible assumption) | (with_reducible exact Fr.of_nil (by assumption)) | (with_reducible refine Fr.drew ?_) | (with_reducible refine Fr.drewN ?_ _) | (with_reducible refine Fr.alloc ?_ _) | (with_reducible refine Fr.set ?_ _ _ (by first | (intros; omega) | (simp; done) | (simp; omega))) | (with_reducible refine Fr.via ?_ (by assumption)) | (with_reducible refine Fr.comp ?_ (by assumption))))⟩
    · rw [show (decide (1 ≤ n) && decide (n ≤ (p : Int)) && decide ((f : Int) ≤ a) && decide (a - f ≤ (p : Int) - n)) = false by simp [k2]]
      have dd := decide_eq_false k2
      clear ha
      go_enter Try.func23, Try.ntmps23
      go_wp2_with fail
      go_quiet (fail)
      go_wp2
      go_ret
      exact ⟨rfl, by (repeat (first | (with_reducible exact Fr.refl _ _) | (with_reducible assumption) | (with_reducible exact Fr.of_nil (by assumption)) | (with_reducible refine Fr.drew ?_) | (with_reducible refine Fr.drewN ?_ _) | (with_reducible refine Fr.alloc ?_ _) | (with_reducible refine Fr.set ?_ _ _ (by first | (intros; omega) | (simp; done) | (simp; omega))) | (with_reducible refine Fr.via ?_ (by assumption)) | (with_reducible refine Fr.comp ?_ (by assumption))))⟩
  · rw [show (decide (1 ≤ n) && decide (n ≤ (p : Int)) && decide ((f : Int) ≤ a) && decide (a - f ≤ (p : Int) - n)) = false by simp [k1]]
    have dd := decide_eq_false k1
    clear ha
    go_enter Try.func23, Try.ntmps23
    go_wp2_with fail
    go_quiet (fail)
    go_wp2
    go_ret
    exact ⟨rfl, by (repeat (first | (with_reducible exact Fr.refl _ _) | (with_reducible assumption) | (with_reducible exact Fr.of_nil (by assumption)) | (with_reducible refine Fr.drew ?_) | (with_reducible refine Fr.drewN ?_ _) | (with_reducible refine Fr.alloc ?_ _) | (with_reducible refine Fr.set ?_ _ _ (by first | (intros; omega) | (simp; done) | (simp; omega))) | (with_reducible refine Fr.via ?_ (by assumption)) | (with_reducible refine Fr.comp ?_ (by assumption))))⟩
theorem free_any (h : RoomAt w br f p v L) : Calls Try.prog 15 #[.pointer (some ⟨br, 0, none⟩)] w fun e w' => e = .returned (.int .i64 (sumL L : Nat)) ∧ Fr Nil w w' := by
  have c2 := h.blk.cell 2
  simp at c2
  have hl := h.len
  have hbr := h.blk.lt
  have hs : f + sumL L ≤ f + p := can_sum h.can (by omega)
  have hp := h.hp
  obtain ⟨a0, cp0, rfl⟩ := h.pairs.shape
  have H := Lib.hid h
  obtain ⟨N, hN⟩ : ∃ N, L.length = N := ⟨_, rfl⟩
  rw [hN] at hl c2
  have HN := Lib.hid hN
  clear h
  rw [show (Value.slice a0 L.length cp0) = .slice a0 N cp0 by rw [hN]] at H
  clear hN
  go_enter Try.func15, Try.ntmps15
  go_wp2_with fail
  go_loopg [3, 11] N (fun g sv iv wr => ∃ k : Nat, g = N - k ∧ k ≤ N ∧ iv = .int .i64 k ∧ sv = .int .i64 (sumL (L.take k) : Nat) ∧ Fr Nil w wr)
  case atStart => exact ⟨0, rfl, by omega, rfl, rfl, Fr.refl _ _⟩
  case round =>
    obtain ⟨k, rfl, hk, rfl, rfl, hw⟩ := hrel
    by_cases hlt : k < N
    · have hkl : k < L.length := by rw [HN.out]; exact hlt
      obtain ⟨g1, d1, e1⟩ := H.out.pairs.form (by omega)
      injection e1 with e1 _ e1'
      subst e1 e1'
      have p1 := H.out.pairs.fr hw
      obtain ⟨p0, p1⟩ := pair_cell p1 (HN.out.symm) k hkl
      have i0 : (0 : Int) ≤ (k : Int) := by omega
      have i1 : (k : Int) < (N : Int) := by omega
      have lt1 : g1 < wr.heap.size := World.block_lt_of_cell? wr _ p0
      have hsum : sumL (L.take (k + 1)) = sumL (L.take k) + L[k].2 := by
        rw [List.take_succ_eq_append_getElem hkl, sumL_app]; simp [sumL]
      have hle : sumL (L.take (k + 1)) ≤ sumL L := by
        have := sumL_app (L.take (k + 1)) (L.drop (k + 1))
        rw [List.take_append_drop] at this
        omega
      have ws : IntKind.i64.wrap ((sumL (L.take k) : Int) + (L[k].2 : Int)) = (sumL (L.take (k + 1)) : Nat) := by rw [IntKind.wrap_i64]; omega
      have HW := Lib.hid (And.intro hsum hle)
      clear hsum hle
      go_wp2
      go_roundg (N - (k + 1))
      case rel => exact ⟨k + 1, rfl, by omega, by go_num, by first | rfl | simp [ws], by (repeat (first | (with_reducible exact Fr.refl _ _) | (with_reducible assumption) | (with_reducible exact Fr.of_nil (by assumption)) | (with_reducible refine Fr.drew ?_) | (with_reducible refine Fr.drewN ?_ _) | (with_reducible refine Fr.alloc ?_ _) | (with_reducible refine Fr.set ?_ _ _ (by first | (intros; omega) | (simp; done) | (simp; omega))) | (with_reducible refine Fr.via ?_ (by assumption)) | (with_reducible refine Fr.comp ?_ (by assumption))))⟩
      case measure => omega
    · obtain rfl : k = N := by omega
      have i1 : ¬ ((k : Int) < (k : Int)) := by omega
      have e : L.take k = L := List.take_of_length_le (by rw [HN.out]; exact Nat.le_refl _)
      rw [e]
      clear e
      go_wp2
      go_ret
      exact ⟨rfl, by (repeat (first | (with_reducible exact Fr.refl _ _) | (with_reducible assumption) | (with_reducible exact Fr.of_nil (by assumption)) | (with_reducible refine Fr.drew ?_) | (with_reducible refine Fr.drewN ?_ _) | (with_reducible refine Fr.alloc ?_ _) | (with_reducible refine Fr.set ?_ _ _ (by first | (intros; omega) | (simp; done) | (simp; omega))) | (with_reducible refine Fr.via ?_ (by assumption)) | (with_reducible refine Fr.comp ?_ (by assumption))))⟩
end
end Go.Proofs.Ytjcnbfiholcjkaa
