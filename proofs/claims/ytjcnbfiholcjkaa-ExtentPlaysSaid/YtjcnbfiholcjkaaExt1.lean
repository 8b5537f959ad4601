/-
  Contracts of what package extent asks of package slices: IndexFunc and ContainsFunc at its three questions, Clone. No conditions.
-/
import Derived.Test.YtjcnbfiholcjkaaPairs
import Derived.Lib.SliceRun
namespace Go.Proofs.Ytjcnbfiholcjkaa
set_option linter.unusedSimpArgs false
set_option linter.unusedVariables false
open Go.RowKit

theorem owns_fr {w w' : World} {base size n : Nat} {t : TypeId} {v : Value} {xs : List Value} (h : w.ownsRow base t size v n xs) (f : Fr Nil w w') : w'.ownsRow base t size v n xs := h.kept ⟨f.os, f.tape, f.output, f.size, fun k hk _ => f.block k hk (fun q => q.elim)⟩ (by cases v.ownBlock <;> simp) (row := none)
theorem PairsAt.fr {base : Nat} {w w' : World} {v : Value} {l : List (Nat × Nat)} (h : PairsAt base w v l) (f : Fr Nil w w') : PairsAt base w' v l := owns_fr h f
theorem PairsAt.shape {base : Nat} {w : World} {v : Value} {l : List (Nat × Nat)} (h : PairsAt base w v l) : ∃ a cap, v = .slice a l.length cap := by
  rcases h.2 with ⟨rfl, hz⟩ | ⟨g, cap, cur, rfl, _⟩
  · exact ⟨none, 0, by rw [hz]⟩
  · exact ⟨_, _, rfl⟩
theorem PairsAt.form {base : Nat} {w : World} {v : Value} {l : List (Nat × Nat)} (h : PairsAt base w v l) (hn : 0 < l.length) : ∃ g cap, v = .slice (some ⟨g, 0, none⟩) l.length cap := Joins.ownsRow_form h hn
theorem pair_cell {base g cap n : Nat} {w : World} {l : List (Nat × Nat)} (h : PairsAt base w (.slice (some ⟨g, 0, none⟩) n cap) l) (hn : n = l.length) (i : Nat) (hi : i < l.length) :
    w.cell? ⟨g, i * 2, none⟩ = some (.int .i64 (l[i].1 : Int)) ∧ w.cell? ⟨g, i * 2 + 1, none⟩ = some (.int .i64 (l[i].2 : Int)) := by
  subst hn
  have e := flatP_get l i hi
  exact ⟨by rw [World.ownsRow.cellAt h (i * 2) (by omega)]; exact e.1, by rw [World.ownsRow.cellAt h (i * 2 + 1) (by omega)]; exact e.2⟩
/-- Where the first stands for which a question holds; -1: nowhere. -/
def idxP (p : Nat × Nat → Bool) (l : List (Nat × Nat)) : Int := match l.findIdx? p with
  | some i => (i : Int)
  | none => -1
theorem idxP_some {p : Nat × Nat → Bool} {l : List (Nat × Nat)} (k : Nat) (hk : k < l.length) (h : p l[k] = true) (ha : ∀ j (hj : j < k), p (l[j]'(by omega)) = false) : idxP p l = (k : Int) := by
  unfold idxP
  rw [List.findIdx?_eq_some_iff_getElem.2 ⟨hk, h, fun j hj => by simp [ha j hj]⟩]
theorem idxP_none {p : Nat × Nat → Bool} {l : List (Nat × Nat)} (ha : ∀ j (hj : j < l.length), p l[j] = false) : idxP p l = -1 := by
  unfold idxP
  rw [List.findIdx?_eq_none_iff.2 (fun x hx => by
    obtain ⟨j, hj, rfl⟩ := List.getElem_of_mem hx
    exact ha j hj)]
theorem ask_take (nb : Nat) (n : Int) (x : Nat × Nat) (w : World) (hn : w.cell? ⟨nb, 0, none⟩ = some (.int .i64 n)) :
    Calls Try.prog 21 #[.agg #[.int .i64 (x.1 : Int), .int .i64 (x.2 : Int)], .pointer (some ⟨nb, 0, none⟩)] w fun e w' => e = .returned (.bool (decide (n ≤ (x.2 : Int)))) ∧ Fr Nil w w' := by
  have lt := World.block_lt_of_cell? w _ hn
  simp at lt
  go_enter Try.func21, Try.ntmps21
  go_wp2
  go_ret
  exact ⟨rfl, by (repeat (first | (with_reducible exact Fr.refl _ _) | (with_reducible assumption) | (with_reducible exact Fr.of_nil (by assumption)) | (with_reducible refine Fr.drew ?_) | (with_reducible refine Fr.drewN ?_ _) | (with_reducible refine Fr.alloc ?_ _) | (with_reducible refine Fr.set ?_ _ _ (by first | (intros; omega) | (simp; done) | (simp; omega))) | (with_reducible refine Fr.via ?_ (by assumption)) | (with_reducible refine Fr.comp ?_ (by assumption))))⟩
theorem ask_past (ab : Nat) (a : Int) (x : Nat × Nat) (w : World) (hn : w.cell? ⟨ab, 0, none⟩ = some (.int .i64 a)) :
    Calls Try.prog 26 #[.agg #[.int .i64 (x.1 : Int), .int .i64 (x.2 : Int)], .pointer (some ⟨ab, 0, none⟩)] w fun e w' => e = .returned (.bool (decide (a < (x.1 : Int)))) ∧ Fr Nil w w' := by
  have lt := World.block_lt_of_cell? w _ hn
  simp at lt
  go_enter Try.func26, Try.ntmps26
  go_wp2
  go_ret
  exact ⟨rfl, by (repeat (first | (with_reducible exact Fr.refl _ _) | (with_reducible assumption) | (with_reducible exact Fr.of_nil (by assumption)) | (with_reducible refine Fr.drew ?_) | (with_reducible refine Fr.drewN ?_ _) | (with_reducible refine Fr.alloc ?_ _) | (with_reducible refine Fr.set ?_ _ _ (by first | (intros; omega) | (simp; done) | (simp; omega))) | (with_reducible refine Fr.via ?_ (by assumption)) | (with_reducible refine Fr.comp ?_ (by assumption))))⟩
/-- Do two runs share a place? -/
def meetB (a n : Nat) (x : Nat × Nat) : Bool := decide (x.1 < a + n) && decide (a < x.1 + x.2)
theorem ask_meet (ab nb a n : Nat) (x : Nat × Nat) (w : World) (ha : w.cell? ⟨ab, 0, none⟩ = some (.int .i64 (a : Int))) (hn : w.cell? ⟨nb, 0, none⟩ = some (.int .i64 (n : Int))) (h1 : a + n ≤ 1000000) (h2 : x.1 + x.2 ≤ 1000000) :
    Calls Try.prog 25 #[.agg #[.int .i64 (x.1 : Int), .int .i64 (x.2 : Int)], .pointer (some ⟨ab, 0, none⟩), .pointer (some ⟨nb, 0, none⟩)] w fun e w' => e = .returned (.bool (meetB a n x)) ∧ Fr Nil w w' := by
  have lt1 := World.block_lt_of_cell? w _ ha
  have lt2 := World.block_lt_of_cell? w _ hn
  simp at lt1 lt2
  have w1 : IntKind.i64.wrap ((a : Int) + (n : Int)) = (a : Int) + (n : Int) := by rw [IntKind.wrap_i64]; omega
  have w2 : IntKind.i64.wrap ((x.1 : Int) + (x.2 : Int)) = (x.1 : Int) + (x.2 : Int) := by rw [IntKind.wrap_i64]; omega
  by_cases c1 : x.1 < a + n
  · have d1 : (x.1 : Int) < (a : Int) + (n : Int) := by omega
    have e : meetB a n x = decide ((a : Int) < (x.1 : Int) + (x.2 : Int)) := by
      unfold meetB
      rw [decide_eq_true c1, Bool.true_and]
      exact decide_eq_decide.2 (by omega)
    rw [e]
    clear e h1 h2
    go_enter Try.func25, Try.ntmps25
    go_wp2
    go_ret
    exact ⟨rfl, by (repeat (first | (with_reducible exact Fr.refl _ _) | (with_reducible assumption) | (with_reducible exact Fr.of_nil (by assumption)) | (with_reducible refine Fr.drew ?_) | (with_reducible refine Fr.drewN ?_ _) | (with_reducible refine Fr.alloc ?_ _) | (with_reducible refine Fr.set ?_ _ _ (by first | (intros; omega) | (simp; done) | (simp; omega))) | (with_reducible refine Fr.via ?_ (by assumption)) | (with_reducible refine Fr.comp ?_ (by assumption))))⟩
  · have d1 : ¬ (x.1 : Int) < (a : Int) + (n : Int) := by omega
    have e : meetB a n x = false := by
      unfold meetB
      rw [decide_eq_false c1, Bool.false_and]
    rw [e]
    clear e h1 h2
    go_enter Try.func25, Try.ntmps25
    go_wp2
    go_ret
    exact ⟨rfl, by (repeat (first | (with_reducible exact Fr.refl _ _) | (with_reducible assumption) | (with_reducible exact Fr.of_nil (by assumption)) | (with_reducible refine Fr.drew ?_) | (with_reducible refine Fr.drewN ?_ _) | (with_reducible refine Fr.alloc ?_ _) | (with_reducible refine Fr.set ?_ _ _ (by first | (intros; omega) | (simp; done) | (simp; omega))) | (with_reducible refine Fr.via ?_ (by assumption)) | (with_reducible refine Fr.comp ?_ (by assumption))))⟩
theorem index_take (base : Nat) (v : Value) (L : List (Nat × Nat)) (w : World) (h : PairsAt base w v L) (hL : L.length ≤ 1000000) (nb : Nat) (n : Int) (hn : w.cell? ⟨nb, 0, none⟩ = some (.int .i64 n)) :
    Calls Try.prog 20 #[v, .func (.func 21) #[] #[.pointer (some ⟨nb, 0, none⟩)]] w fun e w' => e = .returned (.int .i64 (idxP (fun x : Nat × Nat => decide (n ≤ (x.2 : Int))) L)) ∧ Fr Nil w w' := by
  obtain ⟨a0, c0, rfl⟩ := h.shape
  have H := Lib.hid h
  obtain ⟨N, hN⟩ : ∃ N, L.length = N := ⟨_, rfl⟩
  rw [hN] at hL ⊢
  have HN := Lib.hid hN
  clear h hN
  go_enter Try.func20, Try.ntmps20
  go_wp2_with fail
  go_loopg [8] N (fun g iv wr => ∃ k : Nat, g = N - k ∧ k ≤ N ∧ iv = .int .i64 k ∧ Hid (∀ j (hj : j < L.length), j < k → (fun x : Nat × Nat => decide (n ≤ (x.2 : Int))) L[j] = false) ∧ Fr Nil w wr)
  case atStart => exact ⟨0, rfl, by omega, rfl, Lib.hid (fun j _ q => absurd q (by omega)), Fr.refl _ _⟩
  case round =>
    obtain ⟨k, rfl, hk, rfl, HA, hw⟩ := hrel
    by_cases hlt : k < N
    · have hkl : k < L.length := by rw [HN.out]; exact hlt
      obtain ⟨g1, d1, e1⟩ := H.out.form (by omega)
      injection e1 with e1 _ e1'
      subst e1 e1'
      have p := H.out.fr hw
      obtain ⟨p0, p1⟩ := pair_cell p (by rw [HN.out]) k hkl
      have i0 : (0 : Int) ≤ (k : Int) := by omega
      have i1 : (k : Int) < (N : Int) := by omega
      have lt1 : g1 < wr.heap.size := World.block_lt_of_cell? wr _ p0
      have q := hw.cell hn (fun q => q)
      clear p
      cases hc : (fun x : Nat × Nat => decide (n ≤ (x.2 : Int))) L[k] with
      | true =>
        have HC := Lib.hid hc
        clear hc
        go_wp2_with (go_at_call 21; refine (ask_take nb n L[k] _ q).mono ?_; rw [show decide (n ≤ (L[k].2 : Int)) = true from HC.out]; rintro e wk ⟨rfl, fk⟩)
        go_ret
        exact ⟨by rw [idxP_some k hkl HC.out (fun j hj => HA.out j (by omega) hj)]; rfl, by (repeat (first | (with_reducible exact Fr.refl _ _) | (with_reducible assumption) | (with_reducible exact Fr.of_nil (by assumption)) | (with_reducible refine Fr.drew ?_) | (with_reducible refine Fr.drewN ?_ _) | (with_reducible refine Fr.alloc ?_ _) | (with_reducible refine Fr.set ?_ _ _ (by first | (intros; omega) | (simp; done) | (simp; omega))) | (with_reducible refine Fr.via ?_ (by assumption)) | (with_reducible refine Fr.comp ?_ (by assumption))))⟩
      | false =>
        have HC := Lib.hid hc
        clear hc
        go_wp2_with (go_at_call 21; refine (ask_take nb n L[k] _ q).mono ?_; rw [show decide (n ≤ (L[k].2 : Int)) = false from HC.out]; rintro e wk ⟨rfl, fk⟩)
        go_roundg (N - (k + 1))
        case rel =>
          refine ⟨k + 1, rfl, by omega, by go_num, Lib.hid (fun j hj hjk => ?_), by (repeat (first | (with_reducible exact Fr.refl _ _) | (with_reducible assumption) | (with_reducible exact Fr.of_nil (by assumption)) | (with_reducible refine Fr.drew ?_) | (with_reducible refine Fr.drewN ?_ _) | (with_reducible refine Fr.alloc ?_ _) | (with_reducible refine Fr.set ?_ _ _ (by first | (intros; omega) | (simp; done) | (simp; omega))) | (with_reducible refine Fr.via ?_ (by assumption)) | (with_reducible refine Fr.comp ?_ (by assumption))))⟩
          rcases Nat.lt_or_ge j k with q | q
          · exact HA.out j hj q
          · obtain rfl : j = k := by omega
            exact HC.out
        case measure => omega
    · obtain rfl : k = N := by omega
      have i1 : ¬ ((k : Int) < (k : Int)) := by omega
      go_wp2
      go_ret
      exact ⟨by rw [idxP_none (fun j hj => HA.out j hj (by have := HN.out; omega))]; rfl, by (repeat (first | (with_reducible exact Fr.refl _ _) | (with_reducible assumption) | (with_reducible exact Fr.of_nil (by assumption)) | (with_reducible refine Fr.drew ?_) | (with_reducible refine Fr.drewN ?_ _) | (with_reducible refine Fr.alloc ?_ _) | (with_reducible refine Fr.set ?_ _ _ (by first | (intros; omega) | (simp; done) | (simp; omega))) | (with_reducible refine Fr.via ?_ (by assumption)) | (with_reducible refine Fr.comp ?_ (by assumption))))⟩
theorem index_past (base : Nat) (v : Value) (L : List (Nat × Nat)) (w : World) (h : PairsAt base w v L) (hL : L.length ≤ 1000000) (ab : Nat) (a : Int) (hn : w.cell? ⟨ab, 0, none⟩ = some (.int .i64 a)) :
    Calls Try.prog 20 #[v, .func (.func 26) #[] #[.pointer (some ⟨ab, 0, none⟩)]] w fun e w' => e = .returned (.int .i64 (idxP (fun x : Nat × Nat => decide (a < (x.1 : Int))) L)) ∧ Fr Nil w w' := by
  obtain ⟨a0, c0, rfl⟩ := h.shape
  have H := Lib.hid h
  obtain ⟨N, hN⟩ : ∃ N, L.length = N := ⟨_, rfl⟩
  rw [hN] at hL ⊢
  have HN := Lib.hid hN
  clear h hN
  go_enter Try.func20, Try.ntmps20
  go_wp2_with fail
  go_loopg [8] N (fun g iv wr => ∃ k : Nat, g = N - k ∧ k ≤ N ∧ iv = .int .i64 k ∧ Hid (∀ j (hj : j < L.length), j < k → (fun x : Nat × Nat => decide (a < (x.1 : Int))) L[j] = false) ∧ Fr Nil w wr)
  case atStart => exact ⟨0, rfl, by omega, rfl, Lib.hid (fun j _ q => absurd q (by omega)), Fr.refl _ _⟩
  case round =>
    obtain ⟨k, rfl, hk, rfl, HA, hw⟩ := hrel
    by_cases hlt : k < N
    · have hkl : k < L.length := by rw [HN.out]; exact hlt
      obtain ⟨g1, d1, e1⟩ := H.out.form (by omega)
      injection e1 with e1 _ e1'
      subst e1 e1'
      have p := H.out.fr hw
      obtain ⟨p0, p1⟩ := pair_cell p (by rw [HN.out]) k hkl
      have i0 : (0 : Int) ≤ (k : Int) := by omega
      have i1 : (k : Int) < (N : Int) := by omega
      have lt1 : g1 < wr.heap.size := World.block_lt_of_cell? wr _ p0
      have q := hw.cell hn (fun q => q)
      clear p
      cases hc : (fun x : Nat × Nat => decide (a < (x.1 : Int))) L[k] with
      | true =>
        have HC := Lib.hid hc
        clear hc
        go_wp2_with (go_at_call 26; refine (ask_past ab a L[k] _ q).mono ?_; rw [show decide (a < (L[k].1 : Int)) = true from HC.out]; rintro e wk ⟨rfl, fk⟩)
        go_ret
        exact ⟨by rw [idxP_some k hkl HC.out (fun j hj => HA.out j (by omega) hj)]; rfl, by (repeat (first | (with_reducible exact Fr.refl _ _) | (with_reducible assumption) | (with_reducible exact Fr.of_nil (by assumption)) | (with_reducible refine Fr.drew ?_) | (with_reducible refine Fr.drewN ?_ _) | (with_reducible refine Fr.alloc ?_ _) | (with_reducible refine Fr.set ?_ _ _ (by first | (intros; omega) | (simp; done) | (simp; omega))) | (with_reducible refine Fr.via ?_ (by assumption)) | (with_reducible refine Fr.comp ?_ (by assumption))))⟩
      | false =>
        have HC := Lib.hid hc
        clear hc
        go_wp2_with (go_at_call 26; refine (ask_past ab a L[k] _ q).mono ?_; rw [show decide (a < (L[k].1 : Int)) = false from HC.out]; rintro e wk ⟨rfl, fk⟩)
        go_roundg (N - (k + 1))
        case rel =>
          refine ⟨k + 1, rfl, by omega, by go_num, Lib.hid (fun j hj hjk => ?_), by (repeat (first | (with_reducible exact Fr.refl _ _) | (with_reducible assumption) | (with_reducible exact Fr.of_nil (by assumption)) | (with_reducible refine Fr.drew ?_) | (with_reducible refine Fr.drewN ?_ _) | (with_reducible refine Fr.alloc ?_ _) | (with_reducible refine Fr.set ?_ _ _ (by first | (intros; omega) | (simp; done) | (simp; omega))) | (with_reducible refine Fr.via ?_ (by assumption)) | (with_reducible refine Fr.comp ?_ (by assumption))))⟩
          rcases Nat.lt_or_ge j k with q | q
          · exact HA.out j hj q
          · obtain rfl : j = k := by omega
            exact HC.out
        case measure => omega
    · obtain rfl : k = N := by omega
      have i1 : ¬ ((k : Int) < (k : Int)) := by omega
      go_wp2
      go_ret
      exact ⟨by rw [idxP_none (fun j hj => HA.out j hj (by have := HN.out; omega))]; rfl, by (repeat (first | (with_reducible exact Fr.refl _ _) | (with_reducible assumption) | (with_reducible exact Fr.of_nil (by assumption)) | (with_reducible refine Fr.drew ?_) | (with_reducible refine Fr.drewN ?_ _) | (with_reducible refine Fr.alloc ?_ _) | (with_reducible refine Fr.set ?_ _ _ (by first | (intros; omega) | (simp; done) | (simp; omega))) | (with_reducible refine Fr.via ?_ (by assumption)) | (with_reducible refine Fr.comp ?_ (by assumption))))⟩
theorem index_meet (base : Nat) (v : Value) (L : List (Nat × Nat)) (w : World) (h : PairsAt base w v L) (hL : L.length ≤ 1000000) (ab nb a n : Nat) (ha : w.cell? ⟨ab, 0, none⟩ = some (.int .i64 (a : Int))) (hn : w.cell? ⟨nb, 0, none⟩ = some (.int .i64 (n : Int))) (h1 : a + n ≤ 1000000) (h2 : ∀ x ∈ L, x.1 + x.2 ≤ 1000000) :
    Calls Try.prog 20 #[v, .func (.func 25) #[] #[.pointer (some ⟨ab, 0, none⟩), .pointer (some ⟨nb, 0, none⟩)]] w fun e w' => e = .returned (.int .i64 (idxP (fun x : Nat × Nat => meetB a n x) L)) ∧ Fr Nil w w' := by
  obtain ⟨a0, c0, rfl⟩ := h.shape
  have H := Lib.hid h
  obtain ⟨N, hN⟩ : ∃ N, L.length = N := ⟨_, rfl⟩
  rw [hN] at hL ⊢
  have HN := Lib.hid hN
  clear h hN
  go_enter Try.func20, Try.ntmps20
  go_wp2_with fail
  go_loopg [8] N (fun g iv wr => ∃ k : Nat, g = N - k ∧ k ≤ N ∧ iv = .int .i64 k ∧ Hid (∀ j (hj : j < L.length), j < k → (fun x : Nat × Nat => meetB a n x) L[j] = false) ∧ Fr Nil w wr)
  case atStart => exact ⟨0, rfl, by omega, rfl, Lib.hid (fun j _ q => absurd q (by omega)), Fr.refl _ _⟩
  case round =>
    obtain ⟨k, rfl, hk, rfl, HA, hw⟩ := hrel
    by_cases hlt : k < N
    · have hkl : k < L.length := by rw [HN.out]; exact hlt
      obtain ⟨g1, d1, e1⟩ := H.out.form (by omega)
      injection e1 with e1 _ e1'
      subst e1 e1'
      have p := H.out.fr hw
      obtain ⟨p0, p1⟩ := pair_cell p (by rw [HN.out]) k hkl
      have i0 : (0 : Int) ≤ (k : Int) := by omega
      have i1 : (k : Int) < (N : Int) := by omega
      have lt1 : g1 < wr.heap.size := World.block_lt_of_cell? wr _ p0
      have q := hw.cell hn (fun q => q)
      have q' := hw.cell ha (fun q => q)
      have h2' := h2 _ (List.getElem_mem hkl)
      clear p
      cases hc : (fun x : Nat × Nat => meetB a n x) L[k] with
      | true =>
        have HC := Lib.hid hc
        clear hc
        go_wp2_with (go_at_call 25; refine (ask_meet ab nb a n L[k] _ q' q h1 h2').mono ?_; rw [show meetB a n L[k] = true from HC.out]; rintro e wk ⟨rfl, fk⟩)
        go_ret
        exact ⟨by rw [idxP_some k hkl HC.out (fun j hj => HA.out j (by omega) hj)]; rfl, by (repeat (first | (with_reducible exact Fr.refl _ _) | (with_reducible assumption) | (with_reducible exact Fr.of_nil (by assumption)) | (with_reducible refine Fr.drew ?_) | (with_reducible refine Fr.drewN ?_ _) | (with_reducible refine Fr.alloc ?_ _) | (with_reducible refine Fr.set ?_ _ _ (by first | (intros; omega) | (simp; done) | (simp; omega))) | (with_reducible refine Fr.via ?_ (by assumption)) | (with_reducible refine Fr.comp ?_ (by assumption))))⟩
      | false =>
        have HC := Lib.hid hc
        clear hc
        go_wp2_with (go_at_call 25; refine (ask_meet ab nb a n L[k] _ q' q h1 h2').mono ?_; rw [show meetB a n L[k] = false from HC.out]; rintro e wk ⟨rfl, fk⟩)
        go_roundg (N - (k + 1))
        case rel =>
          refine ⟨k + 1, rfl, by omega, by go_num, Lib.hid (fun j hj hjk => ?_), by (repeat (first | (with_reducible exact Fr.refl _ _) | (with_reducible assumption) | (with_reducible exact Fr.of_nil (by assumption)) | (with_reducible refine Fr.drew ?_) | (with_reducible refine Fr.drewN ?_ _) | (with_reducible refine Fr.alloc ?_ _) | (with_reducible refine Fr.set ?_ _ _ (by first | (intros; omega) | (simp; done) | (simp; omega))) | (with_reducible refine Fr.via ?_ (by assumption)) | (with_reducible refine Fr.comp ?_ (by assumption))))⟩
          rcases Nat.lt_or_ge j k with q | q
          · exact HA.out j hj q
          · obtain rfl : j = k := by omega
            exact HC.out
        case measure => omega
    · obtain rfl : k = N := by omega
      have i1 : ¬ ((k : Int) < (k : Int)) := by omega
      go_wp2
      go_ret
      exact ⟨by rw [idxP_none (fun j hj => HA.out j hj (by have := HN.out; omega))]; rfl, by (repeat (first | (with_reducible exact Fr.refl _ _) | (with_reducible assumption) | (with_reducible exact Fr.of_nil (by assumption)) | (with_reducible refine Fr.drew ?_) | (with_reducible refine Fr.drewN ?_ _) | (with_reducible refine Fr.alloc ?_ _) | (with_reducible refine Fr.set ?_ _ _ (by first | (intros; omega) | (simp; done) | (simp; omega))) | (with_reducible refine Fr.via ?_ (by assumption)) | (with_reducible refine Fr.comp ?_ (by assumption))))⟩
theorem contains_meet (base : Nat) (v : Value) (L : List (Nat × Nat)) (w : World) (h : PairsAt base w v L) (hL : L.length ≤ 1000000) (ab nb a n : Nat) (ha : w.cell? ⟨ab, 0, none⟩ = some (.int .i64 (a : Int))) (hn : w.cell? ⟨nb, 0, none⟩ = some (.int .i64 (n : Int))) (h1 : a + n ≤ 1000000) (h2 : ∀ x ∈ L, x.1 + x.2 ≤ 1000000) :
    Calls Try.prog 24 #[v, .func (.func 25) #[] #[.pointer (some ⟨ab, 0, none⟩), .pointer (some ⟨nb, 0, none⟩)]] w fun e w' => e = .returned (.bool (decide (0 ≤ idxP (fun x : Nat × Nat => meetB a n x) L))) ∧ Fr Nil w w' := by
  have hi := index_meet base v L w h hL ab nb a n ha hn h1 h2
  have HI := Lib.hid hi
  clear hi h ha hn
  obtain ⟨R, hR⟩ : ∃ R, idxP (fun x : Nat × Nat => meetB a n x) L = R := ⟨_, rfl⟩
  rw [hR] at HI ⊢
  clear hR
  go_enter Try.func24, Try.ntmps24
  go_wp2_with fail
  refine HI.out.mono ?_
  rintro e w1 ⟨rfl, f1⟩
  go_wp2
  go_ret
  exact ⟨rfl, by (repeat (first | (with_reducible exact Fr.refl _ _) | (with_reducible assumption) | (with_reducible exact Fr.of_nil (by assumption)) | (with_reducible refine Fr.drew ?_) | (with_reducible refine Fr.drewN ?_ _) | (with_reducible refine Fr.alloc ?_ _) | (with_reducible refine Fr.set ?_ _ _ (by first | (intros; omega) | (simp; done) | (simp; omega))) | (with_reducible refine Fr.via ?_ (by assumption)) | (with_reducible refine Fr.comp ?_ (by assumption))))⟩
set_option maxRecDepth 100000 in
set_option maxHeartbeats 4000000 in
theorem clone_any (base : Nat) (v : Value) (L : List (Nat × Nat)) (w : World) (h : PairsAt base w v L) (hL : L.length ≤ 1000000) :
    Calls Try.prog 19 #[v] w fun e w' => ∃ v', e = .returned v' ∧ PairsAt w.heap.size w' v' L ∧ Fr Nil w w' := by
  rcases h.2 with ⟨rfl, hz⟩ | ⟨g, cap, cur, rfl, hg, hb, h1, h2, h3, h4⟩
  · obtain rfl : L = [] := List.length_eq_zero_iff.1 hz
    clear h hz
    have hnil := fun w : World => Lib.run_eql_slice_nil (P := Try.prog) w 38 45 none 0 0 0 0 Try.underlying38
    go_enter Try.func19, Try.ntmps19
    go_wp2
    go_ret
    exact ⟨_, rfl, World.ownsRow_nil _ _ _ _, by (repeat (first | (with_reducible exact Fr.refl _ _) | (with_reducible assumption) | (with_reducible exact Fr.of_nil (by assumption)) | (with_reducible refine Fr.drew ?_) | (with_reducible refine Fr.drewN ?_ _) | (with_reducible refine Fr.alloc ?_ _) | (with_reducible refine Fr.set ?_ _ _ (by first | (intros; omega) | (simp; done) | (simp; omega))) | (with_reducible refine Fr.via ?_ (by assumption)) | (with_reducible refine Fr.comp ?_ (by assumption))))⟩
  · obtain ⟨i0, hi, hz0, hz1, hz2⟩ := info_parts infoPair
    have hblk : Blk w g cur 45 := hb
    obtain ⟨n, hn⟩ : ∃ n, L.length = n := ⟨_, rfl⟩
    rw [hn] at h1 h4 hL ⊢
    have hgl := hblk.lt
    have hsrc : ∀ W : World, Fr Nil w W → Src W (some ⟨g, 0, none⟩) n 2 (flatP L) := fun W f => .inr ⟨_, rfl, by rw [flatP_len, hn], fun j u hj => by
      rw [add_head, (f.blk hblk (fun q => q)).cell, ← Array.getElem?_toList]
      have hjl := (List.getElem?_eq_some_iff.1 hj).1
      rw [flatP_len, hn] at hjl
      have : (cur.toList.take (n * 2))[j]? = some u := by rw [h4]; exact hj
      rw [List.getElem?_take, if_pos hjl] at this
      exact this⟩
    have HS := Lib.hid hsrc
    have HN := Lib.hid hn
    have hml : 0 + n ≤ maxLen := by unfold maxLen; omega
    clear h hsrc hb hblk h3 h4 hn
    have hnil := fun w : World => Lib.run_eql_slice_nil (P := Try.prog) w 38 45 (some ⟨g, 0, none⟩) n cap 0 0 Try.underlying38
    go_enter Try.func19, Try.ntmps19
    go_wp2_with (at_builtin; refine wpList_append_src rfl _ _ 38 rfl w.heap.size 45 i0 _ 2 16 Try.underlying38 hi hz0 hz1 hz2 (by rfl) (by omega) (.slice (some ⟨w.heap.size, 0, none⟩) 0 0) 0 [] rfl (World.ownsRow_lit w #[] 0 (Nat.le_refl _) (by unfold maxLen; omega) rfl) _ n cap (flatP L) rfl (HS.out _ (by (repeat (first | (with_reducible exact Fr.refl _ _) | (with_reducible assumption) | (with_reducible exact Fr.of_nil (by assumption)) | (with_reducible refine Fr.drew ?_) | (with_reducible refine Fr.drewN ?_ _) | (with_reducible refine Fr.alloc ?_ _) | (with_reducible refine Fr.set ?_ _ _ (by first | (intros; omega) | (simp; done) | (simp; omega))) | (with_reducible refine Fr.via ?_ (by assumption)) | (with_reducible refine Fr.comp ?_ (by assumption)))))) (flatP_one L) hml (by omega) (by simp) ?_; intro v' w' r1 r2 r4)
    go_ret
    refine ⟨v', rfl, ?_, ?_⟩
    · unfold PairsAt
      rw [HN.out]
      simpa using r1
    · exact ((Fr.refl _ w).alloc _).grown r2 (fun k hk q => by simp [Value.ownBlock] at hk; omega)
end Go.Proofs.Ytjcnbfiholcjkaa
